/- Ldexp down to what is below the normal numbers. -/
import Derived.Test.YtamhiecepipnjaaDoorC2ApproxNear
namespace Go.Proofs.YtamhiecepipnjaaDoor.GApproxNear
open Go.RowKit Go.Proofs.YtamhiecepipnjaaDoorW.PrintWords Go.Proofs.YtamhiecepipnjaaDoorW.PrintLast Go.Proofs.YtamhiecepipnjaaDoorW.PrintMore Go.Proofs.YtamhiecepipnjaaDoor.Pl
set_option linter.unusedVariables false
set_option linter.unusedSimpArgs false

theorem two_bin (l m C : Nat) (h : C ≤ m) : (l + 2) * C + (m - C) = (l + 1) * C + m := by
  have e1 : (l + 2) * C = (l + 1) * C + C := by rw [show l + 2 = (l + 1) + 1 from rfl, Nat.add_mul (l + 1), Nat.one_mul]
  omega
theorem ldexp_den {F y r l z b : Nat} {a1 : Int} (ha : a1 = -1074) (hF0 : 4503599627370496 ≤ F) (hF1 : F < 9218868437227405312) (hy : F / 4503599627370496 = y) (hr : F % 4503599627370496 = r) (hyl : y = l + 1023) (hz : z = l + 2) (hl : l ≤ 51)
    (hd : floatBits .mul .f64 4368491638549381120 (z * 4503599627370496 + r) = some b) : math_ldexp.f F a1 = some b := by
  have hrl : r < 4503599627370496 := by omega
  have hx : wrap64 (wrap64 (a1 + 0) + wrap64 ((y : Int) - 1023)) = (l : Int) - 1074 := by
    rw [w64 (n := a1 + 0) (by omega) (by omega), w64 (n := (y : Int) - 1023) (by omega) (by omega), w64 (by omega) (by omega)]; omega
  have hw : wrap64 (wrap64 ((l : Int) - 1074 + 53) + 1023) = (z : Int) := by
    rw [w64 (n := (l : Int) - 1074 + 53) (by omega) (by omega), w64 (by omega) (by omega)]; omega
  have hp := put_expo (r := r) (y := z) hrl (by omega)
  have hc1 : ¬ (l : Int) - 1074 < -1075 := by omega
  have hc2 : ¬ (l : Int) - 1074 > 1023 := by omega
  have hc3 : (l : Int) - 1074 < -1022 := by omega
  clear hyl hz hl ha
  unfold math_ldexp.f
  rw [if_neg (by rw [order_gt hF1 (by omega)]; decide), isInf_f hF1]
  simp only [Option.bind_some]
  rw [if_neg (by decide), isNaN_f hF1]
  simp only [Option.bind_some]
  rw [if_neg (by decide), normalize_f hF0 hF1]
  simp only [Option.bind_some, expo_is (show F < 9223372036854775808 by omega), frac_of (show F < 9223372036854775808 by omega)]
  rw [hy, hr]
  clear hF0 hF1 hy hr
  rw [hx, if_neg hc1, if_neg hc2, if_pos hc3, hw, hp, hd]
  rfl
theorem ldexp_small {b : Nat} (h0 : 0 < b) (h1 : b < 4503599627370496) : math_Ldexp.f (floatOfInt .f64 (b : Int)) (-1074) = some b := by
  obtain ⟨l, m, hl, hlog, hme, hm, hm1, he⟩ := first_bit h0 h1
  have hd := mul_drop h0 h1 hl hme hm hm1
  have hf := float_small h0 h1 hlog hl hme hm hm1
  rw [← two_bin l m 4503599627370496 hm] at hd
  clear he hme hlog
  obtain ⟨F, hF⟩ : ∃ F, F = (l + 1022) * 4503599627370496 + m := ⟨_, rfl⟩
  obtain ⟨z, hz⟩ : ∃ z, z = l + 2 := ⟨_, rfl⟩
  obtain ⟨r, hr⟩ : ∃ r, r = m - 4503599627370496 := ⟨_, rfl⟩
  rw [← hz, ← hr] at hd
  obtain ⟨y, hy⟩ : ∃ y, y = l + 1023 := ⟨_, rfl⟩
  rw [hf, ← hF]
  unfold math_Ldexp.f
  rw [ldexp_den (F := F) (y := y) (r := r) (l := l) (z := z) (b := b) rfl (by omega) (by omega) (by omega) (by omega) hy hz hl hd]
  rfl
end Go.Proofs.YtamhiecepipnjaaDoor.GApproxNear
