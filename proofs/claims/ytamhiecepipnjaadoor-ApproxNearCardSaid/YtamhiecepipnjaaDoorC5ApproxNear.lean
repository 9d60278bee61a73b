/- ApproxBack: Float of what Exact tells of a positive number; Error; the law over the printed functions. -/
import Derived.Test.YtamhiecepipnjaaDoorC3ApproxNear
import Derived.Test.YtamhiecepipnjaaDoorC4
import Derived.Test.YtamhiecepipnjaaDoorB5ApproxNear
namespace Go.Proofs.YtamhiecepipnjaaDoor.GApproxNear
open Go.RowKit Go.Proofs.YtamhiecepipnjaaDoorW.PrintWords Go.Proofs.YtamhiecepipnjaaDoorW.PrintLast Go.Proofs.YtamhiecepipnjaaDoorW.PrintMore Go.Proofs.YtamhiecepipnjaaDoor.Pl
set_option linter.unusedVariables false
set_option linter.unusedSimpArgs false

theorem ldexp_top {E q : Nat} (hE : E ≤ 2045) (h0 : 4503599627370496 ≤ q) (h1 : q < 9007199254740992) : math_Ldexp.f (floatOfInt .f64 (q : Int)) ((E : Int) - 1074) = some (E * 4503599627370496 + q) := by
  unfold math_Ldexp.f
  rw [float_of h0 (by omega)]
  have hm : (1074 * 4503599627370496 + q) % 4503599627370496 = q - 4503599627370496 := by omega
  rw [ldexp_norm (E := E + 1) (by omega) (by omega) (by rw [hm]; omega) (by omega) (by omega)]
  simp only [Option.bind_some]
  rw [hm, succ_bin E _ _ _ rfl, Nat.add_assoc, Nat.sub_add_cancel h0]
theorem tail_x {q u c : Int} {b : Nat} (hc : c < 0) (h : math_Ldexp.f (floatOfInt .f64 q) u = some b) :
    (if c > 0 then ((math_Ldexp.f (floatOfInt FloatKind.f64 (IntKind.u64.wrap (q + 1))) u).bind fun t355 => (some (t355, (0 : Int)))) else (if c = 0 then (if (Int.tmod q 2) = 1 then ((math_Ldexp.f (floatOfInt FloatKind.f64 (IntKind.u64.wrap (q + 1))) u).bind fun t356 => (some (t356, 0))) else ((math_Ldexp.f (floatOfInt FloatKind.f64 q) u).bind fun t357 => (some (t357, 0)))) else ((math_Ldexp.f (floatOfInt FloatKind.f64 q) u).bind fun t358 => (some (t358, 0))))) = some (b, 0) := by
  rw [if_neg (by omega), if_neg (by omega), h]; rfl
theorem P2_lt {a b : Nat} (h : P2 a < P2 b) : a < b := by
  rcases Nat.lt_or_ge a b with h1 | h1
  · exact h1
  · have := P2_mono h1; omega
theorem stands_zero {c D : Int} (h : Stands c 0 D) (hD : 0 < D) : c < 0 := by
  unfold Stands at h
  omega
/-- Parts of a whole: how often, and what is left, are one. -/
theorem div_only {q v R D : Int} (h : v * D = q * D + R) (h0 : 0 ≤ R) (h1 : R < D) : q = v ∧ R = 0 := by
  have hD : 0 < D := by omega
  have hq : q = v := by
    rcases Int.lt_trichotomy q v with h2 | h2 | h2
    · have : (q + 1) * D ≤ v * D := Int.mul_le_mul_of_nonneg_right (by omega) (by omega)
      rw [Int.add_mul, Int.one_mul] at this
      omega
    · exact h2
    · have : (v + 1) * D ≤ q * D := Int.mul_le_mul_of_nonneg_right (by omega) (by omega)
      rw [Int.add_mul, Int.one_mul] at this
      omega
  subst hq
  exact ⟨rfl, by omega⟩
theorem mg_lt (b : Nat) : mg b < 9007199254740992 := by unfold mg; split <;> omega
theorem ev_tail {α : Type} {g : Option α} {x : α} (h : g = some x) : Ev (fun _ => g) x := ⟨0, fun _ _ => h⟩
set_option maxRecDepth 4000 in
/-- The float of just what a positive number's bits stand for: that number. -/
theorem Float_exact {n d : List Int} {b : Nat} (h : IsRat n d) (h0 : 0 < b) (h1 : b < 9218868437227405312) (hv : V n * P2 1074 = ((mg b * 2 ^ pl b : Nat) : Int) * V d) : Ev (fun k => approx_Float.f k n d) (b, 0) := by
  have hdp := h.dpos
  have hn0 := h.nneg
  obtain ⟨i, r, hi, hr, hiv, hrv, hde⟩ := div_f h.1 h.2.1 h.2.2.1
  have hr0 := V_nonneg hr.1
  have hi0 := V_nonneg hi.1
  have hlt : V r < V d := by rw [hrv]; exact Int.emod_lt_of_pos _ hdp
  have hsum : V i * V d + V r = V n := by rw [hiv, hrv, Int.mul_comm]; exact Int.mul_ediv_add_emod _ _
  have hmv : ((mg b * 2 ^ pl b : Nat) : Int) = (mg b : Int) * P2 (pl b) := by rw [Int.natCast_mul, P2_nat]
  have hpl : pl b ≤ 2045 := by unfold pl; omega
  have hml := mg_lt b
  have hPp := P2_pos (pl b)
  have h74 := P2_pos 1074
  -- its own form
  have own : 4503599627370496 ≤ b → Bin (V n * P2 1074) (V d) (pl b) (mg b) 0 := fun hb => by
    obtain ⟨m0, m1, m2⟩ := mg_norm hb
    refine ⟨m0, m1, Int.le_refl _, Int.mul_pos hdp hPp, ?_⟩
    rw [hv, hmv]; generalize P2 (pl b) = X; grind
  have low : b < 4503599627370496 → V n * P2 1074 = (b : Int) * V d := fun hb => by
    rw [hv, show mg b = b from if_pos hb, show pl b = 0 from by unfold pl; omega, Nat.pow_zero, Nat.mul_one]
  have fin : ∀ {E q : Nat} {R : Int}, Bin (V n * P2 1074) (V d) E q R → E = pl b ∧ q = mg b ∧ R = 0 ∧ 4503599627370496 ≤ b := by
    intro E q R hb
    have hb0 : 4503599627370496 ≤ b := by
      rcases Nat.lt_or_ge b 4503599627370496 with h2 | h2
      · exfalso
        have l1 := hb.lo hdp
        rw [low h2] at l1
        have l2 : (b : Int) * V d < 4503599627370496 * V d := (Int.mul_lt_mul_right hdp).2 (by omega)
        have l3 : 1 ≤ P2 E := P2_pos E
        have l4 : V d * 1 ≤ V d * P2 E := Int.mul_le_mul_of_nonneg_left l3 (by omega)
        omega
      · exact h2
    obtain ⟨e1, e2, e3⟩ := hb.only (own hb0) hdp
    exact ⟨e1, e2, e3, hb0⟩
  by_cases hgreat : i ≠ [] ∧ 4503599627370496 ≤ V i
  · obtain ⟨s, hb, hlo, hhi, hs⟩ := bits_f hi hgreat.1
    have h52 : 52 ≤ s := by
      rcases Nat.lt_or_ge s 52 with h1 | h1
      · have : P2 (s + 1) ≤ P2 52 := P2_mono (by omega)
        rw [show P2 52 = 4503599627370496 from by decide] at this
        omega
      · exact h1
    have hil := hi.2.2
    have hs24 : s < 1024 := by
      have l1 : P2 s * V d ≤ V i * V d := Int.mul_le_mul_of_nonneg_right hlo (by omega)
      have l2 : P2 s * V d * P2 1074 ≤ V n * P2 1074 := Int.mul_le_mul_of_nonneg_right (by omega) (by omega)
      rw [hv, hmv] at l2
      have l3 : (mg b : Int) * P2 (pl b) < P2 53 * P2 2045 := by
        have a1 : (mg b : Int) * P2 (pl b) < P2 53 * P2 (pl b) := (Int.mul_lt_mul_right hPp).2 (by rw [show P2 53 = 9007199254740992 from by decide]; omega)
        have a2 : P2 53 * P2 (pl b) ≤ P2 53 * P2 2045 := Int.mul_le_mul_of_nonneg_left (P2_mono hpl) (Int.le_of_lt (P2_pos _))
        omega
      rw [← P2_add] at l3
      have l4 : (mg b : Int) * P2 (pl b) * V d < P2 (53 + 2045) * V d := (Int.mul_lt_mul_right hdp).2 l3
      have l5 : P2 (s + 1074) * V d < P2 (53 + 2045) * V d := by rw [P2_add, Int.mul_right_comm]; omega
      have := P2_lt (lt_cancel hdp l5)
      omega
    obtain ⟨q, c, R, hq0, hq1, hR0, hR1, heq, hc, hev⟩ := above_f hi hr h.2.1 hlt hb h52 (by omega) hlo hhi
    rw [hsum] at heq
    have hP := P2_pos (s - 52)
    obtain ⟨f1, f2, f3, f4⟩ := fin (E := s - 52 + 1074) (q := q) (R := R * P2 1074) ⟨hq0, hq1, Int.mul_nonneg hR0 (Int.le_of_lt h74), by rw [P2_add, ← Int.mul_assoc]; exact (Int.mul_lt_mul_right h74).2 hR1, by rw [P2_add, heq]; generalize P2 1074 = P; generalize P2 (s - 52) = X; grind⟩
    have hR : R = 0 := by
      rcases Int.mul_eq_zero.1 f3 with h2 | h2
      · exact h2
      · omega
    subst hR
    have hc0 := stands_zero hc (Int.mul_pos hdp hP)
    have hl := ldexp_top (E := s - 52 + 1074) (q := q) (by omega) hq0 hq1
    obtain ⟨_, _, m2⟩ := mg_norm f4
    rw [f1, f2, m2, ← f1, ← f2, show (((s - 52 + 1074 : Nat) : Int) - 1074) = ((s - 52 : Nat) : Int) from by omega] at hl
    refine ev_bind (ratRight_yes h) (ev_pos rfl (ev_bind hde (ev_bindc hb ?_)))
    refine ev_neg (by omega) (ev_pos (by omega) (ev_bind hev ?_))
    exact ev_tail (tail_x hc0 hl)
  · have hi52 : V i < 4503599627370496 := by
      by_cases h1 : i = []
      · rw [h1]; decide
      · have h2 : ¬ 4503599627370496 ≤ V i := fun h2 => hgreat ⟨h1, h2⟩
        omega
    obtain ⟨t, hb, ht⟩ : ∃ t : Int, nat_Bits.f i = some t ∧ t < 53 := by
      by_cases h1 : i = []
      · exact ⟨0, by rw [h1]; exact bits_nil, by decide⟩
      · obtain ⟨s, hb, hlo, _, _⟩ := bits_f hi h1
        refine ⟨_, hb, ?_⟩
        rcases Nat.lt_or_ge s 52 with h1 | h1
        · omega
        · have : P2 52 ≤ P2 s := P2_mono h1
          rw [show P2 52 = 4503599627370496 from by decide] at this
          omega
    have hnum := number_f hi (by omega)
    have hq : V i = ((V i).toNat : Int) := (Int.toNat_of_nonneg hi0).symm
    rw [hq] at hnum
    obtain ⟨q, u, R, _, hu, hq1, hor, hR0, hR1, heq, hev⟩ := below_l0 h.2.1 1074 0 (V i).toNat r (by omega) hr hlt (by omega)
    rw [Nat.sub_zero, ← hq, hsum] at heq
    have hbelow : Ev (fun k => approx_below.f k i r d) ((q : Int), -(u : Int), sgn R (V d - R)) := ev_bind hnum hev
    have stop : R = 0 → math_Ldexp.f (floatOfInt .f64 (q : Int)) (-(u : Int)) = some b → Ev (fun k => approx_Float.f k n d) (b, 0) := fun hR hl => by
      subst hR
      refine ev_bind (ratRight_yes h) (ev_pos rfl (ev_bind hde (ev_bindc hb ?_)))
      refine ev_neg (by omega) (ev_neg (by omega) (ev_bind hbelow ?_))
      have hs : sgn 0 (V d - 0) = -1 := sgn_lt (by omega)
      rw [hs]
      exact ev_tail (tail_x (show (-1 : Int) < 0 by decide) hl)
    by_cases hq0 : 4503599627370496 ≤ q
    · have hE : P2 1074 = P2 u * P2 (1074 - u) := by rw [← P2_add, show u + (1074 - u) = 1074 from by omega]
      have hP := P2_pos (1074 - u)
      obtain ⟨f1, f2, f3, f4⟩ := fin (E := 1074 - u) (q := q) (R := R * P2 (1074 - u)) ⟨hq0, hq1, Int.mul_nonneg hR0 (Int.le_of_lt hP), (Int.mul_lt_mul_right hP).2 hR1, by rw [hE, ← Int.mul_assoc, heq]; generalize P2 (1074 - u) = P; grind⟩
      have hR : R = 0 := by
        rcases Int.mul_eq_zero.1 f3 with h2 | h2
        · exact h2
        · omega
      have hl := ldexp_top (E := 1074 - u) (q := q) (by omega) hq0 hq1
      obtain ⟨_, _, m2⟩ := mg_norm f4
      rw [f1, f2, m2, ← f1, ← f2, show (((1074 - u : Nat) : Int) - 1074) = -(u : Int) from by omega] at hl
      exact stop hR hl
    · have hu4 : u = 1074 := by omega
      subst hu4
      rw [heq] at hv
      obtain ⟨e1, e2⟩ := div_only (q := (q : Int)) (v := ((mg b * 2 ^ pl b : Nat) : Int)) hv.symm hR0 hR1
      have hbl : b < 4503599627370496 := by
        rcases Nat.lt_or_ge b 4503599627370496 with h2 | h2
        · exact h2
        · exfalso
          obtain ⟨m0, _, _⟩ := mg_norm h2
          have : mg b * 1 ≤ mg b * 2 ^ pl b := Nat.mul_le_mul_left _ (Nat.two_pow_pos _)
          omega
      have e3 : q = b := by
        rw [show mg b = b from if_pos hbl, show pl b = 0 from by unfold pl; omega, Nat.pow_zero, Nat.mul_one] at e1
        omega
      subst e3
      exact stop e2 (ldexp_small h0 hbl)
end Go.Proofs.YtamhiecepipnjaaDoor.GApproxNear
