/- What math's printed functions tell of normal numbers. -/
import Derived.Test.YtamhiecepipnjaaDoorA8ApproxNear
import Derived.Test.YtamhiecepipnjaaDoorB2
import Derived.Laws.BitsAllLaws
namespace Go.Proofs.YtamhiecepipnjaaDoor.GApproxNear
open Go.RowKit Go.Proofs.YtamhiecepipnjaaDoorW.PrintWords Go.Proofs.YtamhiecepipnjaaDoorW.PrintLast Go.Proofs.YtamhiecepipnjaaDoorW.PrintMore Go.Proofs.YtamhiecepipnjaaDoor.Pl
set_option linter.unusedVariables false
set_option linter.unusedSimpArgs false

theorem abs_f {b : Nat} (h : b < 9223372036854775808) : math_Abs.f b = some b := by
  unfold math_Abs.f
  have e := u64_andNot_nat b 9223372036854775808 (by omega) (by omega)
  rw [show ((9223372036854775808 : Nat) : Int) = 9223372036854775808 from rfl] at e
  rw [e, Int.toNat_natCast, show 18446744073709551615 - 9223372036854775808 = 2 ^ 63 - 1 from by decide, Nat.and_two_pow_sub_one_eq_mod, Nat.mod_eq_of_lt h]
theorem isInf_f {b : Nat} (h : b < 9218868437227405312) : math_IsInf.f b 0 = some false := by
  unfold math_IsInf.f
  rw [if_pos rfl, abs_f (by omega)]
  simp only [Option.bind_some]
  rcases Nat.lt_or_ge b 9218868437227405311 with h1 | h1
  · rw [order_lt (by decide) h1]; rfl
  · rw [show b = 9218868437227405311 from by omega, order_eq (by decide)]; rfl
theorem isNaN_f {b : Nat} (h : b < 9218868437227405312) : math_IsNaN.f b = some false := by
  unfold math_IsNaN.f
  rw [order_eq h]; rfl
theorem normalize_f {b : Nat} (h0 : 4503599627370496 ≤ b) (h : b < 9218868437227405312) : math_normalize.f b = some (b, 0) := by
  unfold math_normalize.f
  rw [abs_f (by omega)]
  simp only [Option.bind_some]
  rw [if_neg]
  rcases Nat.lt_or_ge 4503599627370496 b with h1 | h1
  · rw [order_gt h h1]; decide
  · rw [show b = 4503599627370496 from by omega, order_eq (by decide)]; decide
theorem and_top {b : Nat} (h : b < 9223372036854775808) : b &&& 2 ^ 63 = 0 := by
  refine Nat.eq_of_testBit_eq fun i => ?_
  rw [Nat.testBit_and, Nat.testBit_two_pow, Nat.zero_testBit]
  by_cases hi : 63 = i
  · subst hi
    rw [Nat.testBit_lt_two_pow (by omega)]; rfl
  · simp [hi]
theorem frac_of {b : Nat} (h : b < 9223372036854775808) : Go.bits .andNot .u64 (b : Int) 9218868437227405312 = ((b % 4503599627370496 : Nat) : Int) := by
  have e := u64_andNot_nat b 9218868437227405312 (by omega) (by omega)
  rw [show ((9218868437227405312 : Nat) : Int) = 9218868437227405312 from rfl] at e
  rw [e, show 18446744073709551615 - 9218868437227405312 = 2 ^ 63 ||| (2 ^ 52 - 1) from by decide +kernel, Nat.and_or_distrib_left, and_top h, Nat.zero_or, Nat.and_two_pow_sub_one_eq_mod]
theorem expo_is {b : Nat} (h : b < 9223372036854775808) : Go.bits .and .i64 (wrap64 ((b : Int) / 4503599627370496)) 2047 = ((b / 4503599627370496 : Nat) : Int) := by
  rw [w64 (by omega) (by omega)]
  have e := bits_mask .i64 11 (by decide) (fun n h0 h1 => by rw [IntKind.wrap_i64]; omega) 11 (by decide) ((b : Int) / 4503599627370496) (by omega) (by omega)
  rw [show ((2 : Int) ^ 11 - 1) = 2047 from by decide, show (2 : Int) ^ 11 = 2048 from by decide] at e
  rw [e]
  omega
theorem put_expo {r y : Nat} (hr : r < 4503599627370496) (hy : y < 2048) : (Go.bits .or .u64 (r : Int) (IntKind.u64.wrap ((IntKind.u64.wrap (y : Int)) * 4503599627370496))).toNat = y * 4503599627370496 + r := by
  rw [u64_in (n := (y : Int)) (by omega) (by omega), u64_in (by omega) (by omega)]
  rw [or_comm .u64 64 (by decide) (fun n h0 h1 => u64_in h0 h1) (by omega) (by omega) (by omega) (by omega)]
  rw [bits_join .u64 64 (by decide) (fun n h0 h1 => u64_in h0 h1) 52 _ _ (by omega) (by omega) (by omega) (by omega) (by omega) (by omega)]
  omega
/-- Ldexp of a normal number whose outcome is normal. -/
theorem ldexp_norm {b E : Nat} {a1 : Int} (h0 : 4503599627370496 ≤ b) (h1 : b < 9218868437227405312) (hE : E * 4503599627370496 + b % 4503599627370496 < 9218868437227405312) (hE0 : 1 ≤ E) (ha : a1 + ((b / 4503599627370496 : Nat) : Int) = E) :
    math_ldexp.f b a1 = some (E * 4503599627370496 + b % 4503599627370496) := by
  unfold math_ldexp.f
  rw [if_neg (by rw [order_gt h1 (by omega)]; decide), isInf_f h1]
  simp only [Option.bind_some]
  rw [if_neg (by decide), isNaN_f h1]
  simp only [Option.bind_some]
  rw [if_neg (by decide), normalize_f h0 h1]
  simp only [Option.bind_some, expo_is (show b < 9223372036854775808 by omega), frac_of (show b < 9223372036854775808 by omega)]
  have hE2 : E < 2047 := by omega
  have hb2 : b / 4503599627370496 < 2047 := by omega
  obtain ⟨y, hy⟩ : ∃ y, y = b / 4503599627370496 := ⟨_, rfl⟩
  rw [← hy] at ha hb2 ⊢
  have hx : wrap64 (wrap64 (a1 + 0) + wrap64 ((y : Int) - 1023)) = (E : Int) - 1023 := by
    rw [w64 (n := a1 + 0) (by omega) (by omega), w64 (n := (y : Int) - 1023) (by omega) (by omega), w64 (by omega) (by omega)]; omega
  rw [hx, if_neg (by omega), if_neg (by omega), if_neg (by omega)]
  have hw : wrap64 ((E : Int) - 1023 + 1023) = (E : Int) := by rw [w64 (by omega) (by omega)]; omega
  rw [hw, put_expo (Nat.mod_lt _ (by decide)) (by omega)]
  have hm := mul_one_norm (b := E * 4503599627370496 + b % 4503599627370496) (by omega) hE
  rw [hm]
  rfl
theorem ldexp_f {E q : Nat} (hE : E ≤ 2044) (h0 : 4503599627370496 ≤ q) (h1 : q ≤ 9007199254740992) : math_Ldexp.f (floatOfInt .f64 (q : Int)) ((E : Int) - 1074) = some (E * 4503599627370496 + q) := by
  unfold math_Ldexp.f
  rw [float_of h0 h1]
  by_cases h2 : q = 9007199254740992
  · subst h2
    rw [ldexp_norm (E := E + 2) (by omega) (by omega) (by omega) (by omega) (by omega)]
    simp only [Option.bind_some, Nat.add_mul, Nat.reduceMul, Nat.reduceAdd, Nat.reduceMod, Nat.add_zero]
  · have hm : (1074 * 4503599627370496 + q) % 4503599627370496 = q - 4503599627370496 := by omega
    rw [ldexp_norm (E := E + 1) (by omega) (by omega) (by rw [hm]; omega) (by omega) (by omega)]
    simp only [Option.bind_some]
    rw [hm, succ_bin E _ _ _ rfl, Nat.add_assoc, Nat.sub_add_cancel h0]
theorem ldexp_zero (a1 : Int) : math_Ldexp.f (floatOfInt .f64 0) a1 = some 0 := by
  unfold math_Ldexp.f math_ldexp.f
  rw [float_of_zero, if_pos (by decide +kernel)]; rfl
end Go.Proofs.YtamhiecepipnjaaDoor.GApproxNear
