/- What Float, Cmp and Add tell of small fractions; awake. -/
import Derived.Test.YtamhiecepipnjaaDoorB4ApproxNear
namespace Go.Proofs.YtamhiecepipnjaaDoor.GApproxNear
open Go.RowKit Go.Proofs.YtamhiecepipnjaaDoorW.PrintWords Go.Proofs.YtamhiecepipnjaaDoorW.PrintLast Go.Proofs.YtamhiecepipnjaaDoorW.PrintMore Go.Proofs.YtamhiecepipnjaaDoor.Pl
set_option linter.unusedVariables false
set_option linter.unusedSimpArgs false

theorem awake_f : Ev (fun k => samphirelaw04_awake.f k) true := Ev.of samphirelaw04_awake.mono (k := 200) (by decide +kernel)
/-- The end of Float: rounding, and the number. -/
theorem tail_f {E q : Nat} {c R D : Int} (hE : E ≤ 2044) (h0 : 4503599627370496 ≤ q) (h1 : q < 9007199254740992) (hc : Stands c R D) :
    (if c > 0 then ((math_Ldexp.f (floatOfInt FloatKind.f64 (IntKind.u64.wrap ((q : Int) + 1))) ((E : Int) - 1074)).bind fun t355 => (some (t355, (0 : Int)))) else (if c = 0 then (if (Int.tmod (q : Int) 2) = 1 then ((math_Ldexp.f (floatOfInt FloatKind.f64 (IntKind.u64.wrap ((q : Int) + 1))) ((E : Int) - 1074)).bind fun t356 => (some (t356, 0))) else ((math_Ldexp.f (floatOfInt FloatKind.f64 (q : Int)) ((E : Int) - 1074)).bind fun t357 => (some (t357, 0)))) else ((math_Ldexp.f (floatOfInt FloatKind.f64 (q : Int)) ((E : Int) - 1074)).bind fun t358 => (some (t358, 0))))) =
      some (E * 4503599627370496 + rup q R D, 0) := by
  have e1 : IntKind.u64.wrap ((q : Int) + 1) = ((q + 1 : Nat) : Int) := by rw [u64_in (by omega) (by omega)]; omega
  have l1 := ldexp_f (q := q + 1) hE (by omega) (by omega)
  have l2 := ldexp_f (q := q) hE h0 (by omega)
  have e2 : Int.tmod (q : Int) 2 = ((q % 2 : Nat) : Int) := by rw [Int.tmod_eq_emod_of_nonneg (by omega)]; rfl
  rw [e1, l1, l2, e2]
  simp only [Option.bind_some]
  unfold rup
  unfold Stands at hc
  by_cases hc1 : c > 0
  · rw [if_pos hc1, if_pos (.inl (hc.1.1 hc1))]
  · rw [if_neg hc1]
    by_cases hc2 : c = 0
    · rw [if_pos hc2]
      have hR := hc.2.1 hc2
      by_cases hq : q % 2 = 1
      · rw [if_pos (by omega), if_pos (.inr ⟨hR, hq⟩)]
      · rw [if_neg (by omega), if_neg (by omega)]
    · rw [if_neg hc2, if_neg]
      rintro (h | ⟨h, _⟩)
      · exact hc1 (hc.1.2 h)
      · exact hc2 (hc.2.2 h)
theorem small_lt {l : List Int} (hw : Wf l) {m : Nat} (h : l.length ≤ m) : V l < P2 (32 * m) := by
  rw [← W_P2]; exact Int.lt_of_lt_of_le (V_lt hw) (W_mono h)
/-- A fraction of at most 30 limbs, each: its float is the nearest. -/
theorem Float_f {n d : List Int} (h : IsRat n d) (hn : n.length ≤ 30) (hd : d.length ≤ 30) : ∃ b, Near (V n) (V d) b ∧ Ev (fun k => approx_Float.f k n d) (b, 0) := by
  have hdp := h.dpos
  have hn0 := h.nneg
  obtain ⟨i, r, hi, hr, hiv, hrv, hde⟩ := div_f h.1 h.2.1 h.2.2.1
  have hr0 := V_nonneg hr.1
  have hi0 := V_nonneg hi.1
  have hlt : V r < V d := by rw [hrv]; exact Int.emod_lt_of_pos _ hdp
  have hsum : V i * V d + V r = V n := by rw [hiv, hrv, Int.mul_comm]; exact Int.mul_ediv_add_emod _ _
  have hin : V i ≤ V n := by
    have : V i * 1 ≤ V i * V d := Int.mul_le_mul_of_nonneg_left (by omega) hi0
    omega
  have hil : i.length ≤ 30 := Nat.le_trans (len_lt_of_V_lt hi.1 h.1.1 hi.2.1 hin) hn
  -- the great ones
  by_cases hgreat : i ≠ [] ∧ 4503599627370496 ≤ V i
  · obtain ⟨s, hb, hlo, hhi, hs⟩ := bits_f hi hgreat.1
    have h52 : 52 ≤ s := by
      rcases Nat.lt_or_ge s 52 with h1 | h1
      · have : P2 (s + 1) ≤ P2 52 := P2_mono (by omega)
        rw [show P2 52 = 4503599627370496 from by decide] at this
        omega
      · exact h1
    obtain ⟨q, c, R, hq0, hq1, hR0, hR1, heq, hc, hev⟩ := above_f hi hr h.2.1 hlt hb h52 (by omega) hlo hhi
    rw [hsum] at heq
    have hP := P2_pos (s - 52)
    refine ⟨(s - 52 + 1074) * 4503599627370496 + rup q (R * P2 1074) (V d * P2 (s - 52 + 1074)), .inr ⟨?_, s - 52 + 1074, q, R * P2 1074, by omega, ⟨hq0, hq1, ?_, ?_, ?_⟩, rfl⟩, ?_⟩
    · have : 0 < (q : Int) * (V d * P2 (s - 52)) := Int.mul_pos (by omega) (Int.mul_pos hdp hP)
      omega
    · exact Int.mul_nonneg hR0 (Int.le_of_lt (P2_pos _))
    · rw [P2_add, ← Int.mul_assoc]; exact (Int.mul_lt_mul_right (P2_pos _)).2 hR1
    · rw [P2_add, heq]; generalize P2 1074 = P; grind
    · have hup : rup q (R * P2 1074) (V d * P2 (s - 52 + 1074)) = rup q R (V d * P2 (s - 52)) := by
        unfold rup
        have hp := P2_pos 1074
        rw [P2_add, ← Int.mul_assoc (V d)]
        generalize V d * P2 (s - 52) = D
        generalize P2 1074 = P at *
        have e1 : 2 * (R * P) > D * P ↔ 2 * R > D := by
          rw [← Int.mul_assoc]; exact Int.mul_lt_mul_right hp
        have e2 : 2 * (R * P) = D * P ↔ 2 * R = D := by
          rw [← Int.mul_assoc]; exact Int.mul_eq_mul_right_iff (by omega)
        simp only [e1, e2]
      rw [hup]
      refine ev_bind (ratRight_yes h) (ev_pos rfl (ev_bind hde (ev_bindc hb ?_)))
      refine ev_neg (by omega) (ev_pos (by omega) (ev_bind hev ?_))
      have := tail_f (E := s - 52 + 1074) (by omega) hq0 hq1 hc
      rw [show (((s - 52 + 1074 : Nat) : Int) - 1074) = ((s - 52 : Nat) : Int) from by omega] at this
      exact ⟨0, fun k _ => this⟩
  · -- the small ones
    have hi52 : V i < 4503599627370496 := by
      by_cases h1 : i = []
      · rw [h1]; decide
      · have h2 : ¬ 4503599627370496 ≤ V i := fun h2 => hgreat ⟨h1, h2⟩
        omega
    obtain ⟨t, hb, ht⟩ : ∃ t : Int, nat_Bits.f i = some t ∧ t < 53 := by
      by_cases h1 : i = []
      · exact ⟨0, by rw [h1]; exact bits_nil, by decide⟩
      · obtain ⟨s, hb, hlo, _, _⟩ := bits_f hi h1
        refine ⟨_, hb, ?_⟩
        rcases Nat.lt_or_ge s 52 with h1 | h1
        · omega
        · have : P2 52 ≤ P2 s := P2_mono h1
          rw [show P2 52 = 4503599627370496 from by decide] at this
          omega
    have hnum := number_f hi (by omega)
    have hq : V i = ((V i).toNat : Int) := (Int.toNat_of_nonneg hi0).symm
    rw [hq] at hnum
    obtain ⟨q, u, R, _, hu, hq1, hor, hR0, hR1, heq, hev⟩ := below_l0 h.2.1 1074 0 (V i).toNat r (by omega) hr hlt (by omega)
    rw [Nat.sub_zero, ← hq, hsum] at heq
    have hbelow : Ev (fun k => approx_below.f k i r d) ((q : Int), -(u : Int), sgn R (V d - R)) := ev_bind hnum hev
    have hd30 := small_lt h.2.1.1 hd
    rcases Int.lt_or_eq_of_le hn0 with hpos | hzero
    · have hq0 : 4503599627370496 ≤ q := by
        rcases hor with h1 | h1
        · exact h1
        · subst h1
          exfalso
          have h2 : (1 : Int) * P2 1074 ≤ V n * P2 1074 := Int.mul_le_mul_of_nonneg_right (by omega) (Int.le_of_lt (P2_pos _))
          have h3 : ((q : Int) + 1) * V d ≤ 9007199254740992 * V d := Int.mul_le_mul_of_nonneg_right (by omega) (by omega)
          rw [Int.add_mul, Int.one_mul] at h3
          have h4 : P2 (53 + 32 * 30) ≤ P2 1074 := P2_mono (by omega)
          rw [P2_add, show P2 53 = 9007199254740992 from by decide] at h4
          omega
      have hE : P2 1074 = P2 u * P2 (1074 - u) := by rw [← P2_add, show u + (1074 - u) = 1074 from by omega]
      have hP := P2_pos (1074 - u)
      refine ⟨(1074 - u) * 4503599627370496 + rup q (R * P2 (1074 - u)) (V d * P2 (1074 - u)), .inr ⟨hpos, 1074 - u, q, R * P2 (1074 - u), by omega, ⟨hq0, hq1, Int.mul_nonneg hR0 (Int.le_of_lt hP), (Int.mul_lt_mul_right hP).2 hR1, ?_⟩, rfl⟩, ?_⟩
      · rw [hE, ← Int.mul_assoc, heq]; generalize P2 (1074 - u) = P; grind
      · have hup : rup q (R * P2 (1074 - u)) (V d * P2 (1074 - u)) = rup q R (V d) := by
          unfold rup
          generalize V d = D
          generalize P2 (1074 - u) = P at *
          have e1 : 2 * (R * P) > D * P ↔ 2 * R > D := by
            rw [← Int.mul_assoc]; exact Int.mul_lt_mul_right hP
          have e2 : 2 * (R * P) = D * P ↔ 2 * R = D := by
            rw [← Int.mul_assoc]; exact Int.mul_eq_mul_right_iff (by omega)
          simp only [e1, e2]
        rw [hup]
        refine ev_bind (ratRight_yes h) (ev_pos rfl (ev_bind hde (ev_bindc hb ?_)))
        refine ev_neg (by omega) (ev_neg (by omega) (ev_bind hbelow ?_))
        have := tail_f (E := 1074 - u) (by omega) hq0 hq1 (stands_half R (V d))
        rw [show (((1074 - u : Nat) : Int) - 1074) = -(u : Int) from by omega] at this
        exact ⟨0, fun k _ => this⟩
    · -- nothing
      rw [← hzero, Int.zero_mul] at heq
      have hq0 : q = 0 := by
        rcases Nat.eq_zero_or_pos q with h1 | h1
        · exact h1
        · have : 0 < (q : Int) * V d := Int.mul_pos (by omega) hdp
          omega
      subst hq0
      have hR : R = 0 := by omega
      subst hR
      refine ⟨0, .inl ⟨hzero.symm, rfl⟩, ?_⟩
      refine ev_bind (ratRight_yes h) (ev_pos rfl (ev_bind hde (ev_bindc hb ?_)))
      refine ev_neg (by omega) (ev_neg (by omega) (ev_bind hbelow ?_))
      have hs : sgn 0 (V d - 0) = -1 := sgn_lt (by omega)
      refine ⟨0, fun k _ => ?_⟩
      simp only [hs]
      rw [if_neg (by decide), if_neg (by decide), show ((0 : Nat) : Int) = 0 from rfl, ldexp_zero]; rfl
end Go.Proofs.YtamhiecepipnjaaDoor.GApproxNear
