/- What math's printed functions tell of small numbers, and what Exact tells of a positive number. (For a print that keeps ldexp's way below the normal numbers.) -/
import Derived.Test.YtamhiecepipnjaaDoorB4ApproxNear
import Derived.Test.YtamhiecepipnjaaDoorC1
namespace Go.Proofs.YtamhiecepipnjaaDoor.GApproxNear
open Go.RowKit Go.Proofs.YtamhiecepipnjaaDoorW.PrintWords Go.Proofs.YtamhiecepipnjaaDoorW.PrintLast Go.Proofs.YtamhiecepipnjaaDoorW.PrintMore Go.Proofs.YtamhiecepipnjaaDoor.Pl
set_option linter.unusedVariables false
set_option linter.unusedSimpArgs false

theorem normalize_small {b l m : Nat} (h0 : 0 < b) (h1 : b < 4503599627370496) (hm : 4503599627370496 ≤ m) (hm1 : m < 9007199254740992) (hl : l ≤ 51) (he : m * 2 ^ l = b * 2 ^ 52) : math_normalize.f b = some (l * 4503599627370496 + m, -52) := by
  unfold math_normalize.f
  rw [abs_f (by omega)]
  simp only [Option.bind_some]
  rw [if_pos (by rw [order_lt (by decide) h1]; decide), mul_lift h0 h1 hm hm1 hl he]
  rfl
/-- What a positive number is: a normal number's bits, and what its exponent lacks. -/
theorem normal_form {b : Nat} (h0 : 0 < b) (h1 : b < 9218868437227405312) : ∃ (B : Nat) (off : Int), math_normalize.f b = some (B, off) ∧ 4503599627370496 ≤ B ∧ B < 9218868437227405312 ∧ (off = 0 ∨ off = -52) ∧
    ∃ t : Nat, (t : Int) = off + (B / 4503599627370496 : Nat) + 51 ∧ t < 2098 ∧ (4503599627370496 + B % 4503599627370496) * 2 ^ t = mg b * 2 ^ pl b * 2 ^ 52 := by
  by_cases h2 : b < 4503599627370496
  · obtain ⟨l, m, hl, hlog, hme, hm, hm1, he⟩ := first_bit h0 h2
    refine ⟨l * 4503599627370496 + m, -52, normalize_small h0 h2 hm hm1 hl he, by omega, by omega, .inr rfl, l, by omega, by omega, ?_⟩
    have e1 : mg b = b := if_pos h2
    have e2 : pl b = 0 := by unfold pl; omega
    rw [e1, e2, Nat.pow_zero, Nat.mul_one, ← he]
    congr 1
    omega
  · refine ⟨b, 0, normalize_f (by omega) h1, by omega, h1, .inl rfl, pl b + 52, by unfold pl; omega, by unfold pl; omega, ?_⟩
    have e1 : mg b = 4503599627370496 + b % 4503599627370496 := if_neg h2
    rw [e1, Nat.pow_add, Nat.mul_assoc]
theorem frexp_f {b B : Nat} {off : Int} (h0 : 0 < b) (h1 : b < 9218868437227405312) (hn : math_normalize.f b = some (B, off)) (hB : 4503599627370496 ≤ B) (hB1 : B < 9218868437227405312) (ho : off = 0 ∨ off = -52) :
    math_Frexp.f b = some (1022 * 4503599627370496 + B % 4503599627370496, off + ((B / 4503599627370496 : Nat) : Int) - 1022) := by
  unfold math_Frexp.f math_frexp.f
  rw [if_neg (by rw [order_gt h1 h0]; decide), isInf_f h1]
  simp only [Option.bind_some]
  rw [if_neg (by decide), isNaN_f h1]
  simp only [Option.bind_some]
  rw [if_neg (by decide), hn]
  simp only [Option.bind_some]
  congr 1
  rw [frac_of (show B < 9223372036854775808 by omega)]
  rw [or_comm .u64 64 (by decide) (fun n h0 h1 => u64_in h0 h1) (by omega) (by omega) (by omega) (by omega)]
  rw [bits_join .u64 64 (by decide) (fun n h0 h1 => u64_in h0 h1) 52 _ _ (by omega) (by omega) (by omega) (by omega) (by omega) (by omega)]
  have e := bits_mask .u64 64 (by decide) (fun n h0 h1 => u64_in h0 h1) 11 (by decide) ((B : Int) / 4503599627370496) (by omega) (by omega)
  rw [show ((2 : Int) ^ 11 - 1) = 2047 from by decide, show (2 : Int) ^ 11 = 2048 from by decide] at e
  rw [e]
  rw [w64 (n := (B : Int) / 4503599627370496 % 2048) (by omega) (by omega), w64 (n := (B : Int) / 4503599627370496 % 2048 - 1023) (by omega) (by omega), w64 (n := (B : Int) / 4503599627370496 % 2048 - 1023 + 1) (by omega) (by omega), w64 (by omega) (by omega)]
  refine Prod.ext ?_ ?_
  · show ((4602678819172646912 : Int) + ((B % 4503599627370496 : Nat) : Int)).toNat = 1022 * 4503599627370496 + B % 4503599627370496
    omega
  · show off + ((B : Int) / 4503599627370496 % 2048 - 1023 + 1) = off + ((B / 4503599627370496 : Nat) : Int) - 1022
    omega
theorem ldexp53 {r : Nat} (h : r < 4503599627370496) : math_Ldexp.f (1022 * 4503599627370496 + r) 53 = some (1074 * 4503599627370496 + (4503599627370496 + r)) := by
  unfold math_Ldexp.f
  have e1 : (1022 * 4503599627370496 + r) % 4503599627370496 = r := by omega
  have e2 : (1022 * 4503599627370496 + r) / 4503599627370496 = 1022 := by omega
  rw [ldexp_norm (E := 1075) (by omega) (by omega) (by omega) (by omega) (by rw [e2]; rfl), e1]
  simp only [Option.bind_some]
  congr 1
  rw [← Nat.add_assoc]
theorem swap5 (q X d Z Y : Int) : q * X * d * Z * Y = q * (X * (Z * Y)) * d := by grind
theorem make_le {n d : List Int} (hn : IsNat n) (hd : IsNat d) (hd0 : d ≠ []) :
    ∃ n' d', IsRat n' d' ∧ V n' * V d = V n * V d' ∧ n'.length ≤ n.length ∧ d'.length ≤ d.length ∧ Ev (fun k => rat_Make.f k n d) (n', d', 0) := by
  obtain ⟨n', d', hr, h1, h2, hev⟩ := reduce_f hn hd hd0
  have hp := hd.2.1.pos hd.1 hd0
  have hg : 0 < gcdV (V n) (V d) := gcdV_pos hp
  refine ⟨n', d', hr, ?_, ?_, ?_, ?_⟩
  · rw [h1, h2]; exact cross_of_div (V_nonneg hn.1) hp
  · exact len_lt_of_V_lt hr.1.1 hn.1 hr.1.2.1 (by rw [h1]; exact Int.ediv_le_self _ (V_nonneg hn.1))
  · exact len_lt_of_V_lt hr.2.1.1 hd.1 hr.2.1.2.1 (by rw [h2]; exact Int.ediv_le_self _ (by omega))
  · refine ev_bindc (right_nat hn) (ev_pos rfl (ev_bindc (right_nat hd) ?_))
    first | (refine Ev.step (fun k => rat_Make.j0.eq_2 _ _ _ k) ?_; refine ev_neg (by simp) ?_) | refine ev_pos rfl ?_
    refine ev_neg ?_ (ev_bindr hev rfl)
    have := List.length_pos_iff.2 hd0
    omega
/-- Exact of a positive number: just what its bits stand for. -/
theorem exact_f {b : Nat} (h0 : 0 < b) (h1 : b < 9218868437227405312) : ∃ n d, IsRat n d ∧ n.length + d.length ≤ 38 ∧ V n * P2 1074 = ((mg b * 2 ^ pl b : Nat) : Int) * V d ∧ Ev (fun k => approx_Exact.f k b) (n, d, 0) := by
  obtain ⟨B, off, hnz, hB, hB1, ho, t, ht, ht1, hv⟩ := normal_form h0 h1
  obtain ⟨q, hq⟩ : ∃ q, q = 4503599627370496 + B % 4503599627370496 := ⟨_, rfl⟩
  have hq0 : 4503599627370496 ≤ q := by omega
  have hq1 : q < 9007199254740992 := by omega
  rw [← hq] at hv
  obtain ⟨vb, hvb⟩ : ∃ vb : Nat, vb = mg b * 2 ^ pl b := ⟨_, rfl⟩
  rw [← hvb] at hv ⊢
  have hvi : (q : Int) * P2 t = (vb : Int) * P2 52 := by
    rw [← P2_nat, ← P2_nat]; exact_mod_cast hv
  obtain ⟨m, hm, hmn, hmv, hml⟩ := of_f (q : Int) (by omega) (by omega)
  have hfrexp := frexp_f h0 h1 hnz hB hB1 ho
  have hld := ldexp53 (r := B % 4503599627370496) (Nat.mod_lt _ (by decide))
  rw [← hq] at hld
  have hft := float_to hq0 hq1
  have hexp : wrap64 (off + ((B / 4503599627370496 : Nat) : Int) - 1022 - 53) = (t : Int) - 1126 := by rw [w64 (by omega) (by omega)]; omega
  have start : ∀ {x : List Int × List Int × Int}, Ev (fun k => if ((t : Int) - 1126) ≥ 0 then ((approx_power.f ((t : Int) - 1126)).bind fun t441 => ((nat_Mul.f k m t441).bind fun bt444 => (if bt444.2 = 0 then ((nat_Of.f k 1).bind fun t448 => ((rat_Make.f k bt444.1 t448).bind fun bt451 => (some (bt451.1, bt451.2.1, bt451.2.2)))) else (none)))) else ((approx_power.f (wrap64 (-((t : Int) - 1126)))).bind fun t458 => ((rat_Make.f k m t458).bind fun bt461 => (some (bt461.1, bt461.2.1, bt461.2.2))))) x → Ev (fun k => approx_Exact.f k b) x := by
    intro x hx
    refine ev_bindc (isNaN_f h1) (ev_neg (by decide) (ev_bindc (isInf_f h1) (ev_neg (by decide) ?_)))
    refine Ev.step (fun k => approx_Exact.j0.eq_2 _ _ k) ?_
    refine ev_neg (by rw [order_gt h1 h0]; decide) (ev_neg (by rw [order_gt h1 h0]; decide) (ev_bindc hfrexp (ev_bindc hld (ev_pos (by rw [hft]; rfl) ?_))))
    simp only [hft, Option.getD_some, hexp]
    exact ev_bind hm hx
  by_cases hc : t < 1126
  · obtain ⟨p, hpe, hp, hpv, hp0⟩ := power_f (n := 1126 - t) (by omega)
    obtain ⟨n, d, hr, hcross, hln, hld', hmk⟩ := make_le hmn hp hp0
    have hpl : p.length ≤ 36 := by
      refine len_le hp.1 hp.2.1 ?_
      rw [hpv, W_P2]
      have : P2 (1126 - t) ≤ P2 1126 := P2_mono (by omega)
      have h2 : P2 (1126 + 1) ≤ P2 (32 * 36) := P2_mono (by omega)
      rw [P2_succ] at h2
      have := P2_pos 1126
      omega
    refine ⟨n, d, hr, by omega, ?_, start (ev_neg (by omega) (ev_bindc (x := p) ?_ (ev_bindr hmk rfl)))⟩
    · rw [hmv, hpv] at hcross
      have e1 : P2 (1126 - t) * P2 t = P2 1074 * P2 52 := by rw [← P2_add, ← P2_add, show 1126 - t + t = 1074 + 52 from by omega]
      refine Int.eq_of_mul_eq_mul_right (a := P2 52) (by have := P2_pos 52; omega) ?_
      have e2 : V n * P2 1074 * P2 52 = V n * P2 (1126 - t) * P2 t := by rw [Int.mul_assoc, ← e1, ← Int.mul_assoc]
      rw [e2, hcross]
      generalize P2 t = X at *
      generalize P2 52 = Y at *
      rw [Int.mul_right_comm, hvi, Int.mul_right_comm]
    · rw [show wrap64 (-((t : Int) - 1126)) = ((1126 - t : Nat) : Int) from by rw [w64 (by omega) (by omega)]; omega]
      exact hpe
  · obtain ⟨s, hs⟩ : ∃ s, t = s + 1126 := ⟨t - 1126, by omega⟩
    subst hs
    obtain ⟨p, hpe, hp, hpv, hp0⟩ := power_f (n := s) (by omega)
    obtain ⟨x, hx, hxn, hxv, hxe⟩ := mul_f hmn hp
    have hxl : x.length ≤ 32 := by
      refine len_le hx hxn ?_
      rw [hxv, hmv, hpv, W_P2]
      have h2 : (q : Int) * P2 s < 9007199254740992 * P2 s := (Int.mul_lt_mul_right (P2_pos s)).2 (by omega)
      have h3 : P2 (53 + s) ≤ P2 (32 * 32) := P2_mono (by omega)
      rw [P2_add, show P2 53 = 9007199254740992 from by decide] at h3
      omega
    rw [if_neg (by omega)] at hxe
    obtain ⟨o, ho', hon, hov, hol⟩ := of_f 1 (by decide) (by decide)
    obtain ⟨n, d, hr, hcross, hln, hld', hmk⟩ := make_le (n := x) (d := o) ⟨hx, hxn, by omega⟩ hon (ne_nil_of_pos (by omega))
    refine ⟨n, d, hr, by omega, ?_, start (ev_pos (by omega) (ev_bindc (x := p) ?_ (ev_bind hxe (ev_pos rfl (ev_bind ho' (ev_bindr hmk rfl))))))⟩
    · rw [hov, hxv, hmv, hpv, Int.mul_one] at hcross
      rw [P2_add, show (1126 : Nat) = 1074 + 52 from rfl, P2_add] at hvi
      refine Int.eq_of_mul_eq_mul_right (a := P2 52) (by have := P2_pos 52; omega) ?_
      rw [hcross]
      generalize P2 s = X at *
      generalize P2 52 = Y at *
      generalize P2 1074 = Z at *
      rw [swap5, hvi, Int.mul_right_comm]
    · rw [show ((s + 1126 : Nat) : Int) - 1126 = (s : Int) from by omega]; exact hpe
end Go.Proofs.YtamhiecepipnjaaDoor.GApproxNear
