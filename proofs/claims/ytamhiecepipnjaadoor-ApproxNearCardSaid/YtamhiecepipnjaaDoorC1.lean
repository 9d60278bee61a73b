/- Plain law of 64-bit floats, second part: what is below the normal numbers, and what has a sign. No program in sight. -/
import Derived.Test.YtamhiecepipnjaaDoorB2
namespace Go.Proofs.YtamhiecepipnjaaDoor.Pl
open Go Ieee
set_option linter.unusedVariables false
set_option linter.unusedSimpArgs false

/-- A small number's first bit, and what it is when that is moved to the place of a normal number's first bit. -/
theorem first_bit {b : Nat} (h0 : 0 < b) (h1 : b < 4503599627370496) : ∃ l m : Nat, l ≤ 51 ∧ b.log2 = l ∧ m = b * 2 ^ (52 - l) ∧ 4503599627370496 ≤ m ∧ m < 9007199254740992 ∧ m * 2 ^ l = b * 2 ^ 52 := by
  have hne : b ≠ 0 := by omega
  have hl := (Nat.log2_eq_iff (n := b) (k := b.log2) hne).1 rfl
  have hl51 : b.log2 < 52 := (Nat.log2_lt hne).2 (by omega)
  refine ⟨b.log2, b * 2 ^ (52 - b.log2), by omega, rfl, rfl, ?_, ?_, ?_⟩
  · have e : 2 ^ b.log2 * 2 ^ (52 - b.log2) = 4503599627370496 := by rw [← Nat.pow_add, show b.log2 + (52 - b.log2) = 52 from by omega]
    rw [← e]; exact Nat.mul_le_mul_right _ hl.1
  · have e : 2 ^ (b.log2 + 1) * 2 ^ (52 - b.log2) = 9007199254740992 := by rw [← Nat.pow_add, show b.log2 + 1 + (52 - b.log2) = 53 from by omega]
    rw [← e]; exact (Nat.mul_lt_mul_right (Nat.two_pow_pos _)).2 hl.2
  · rw [Nat.mul_assoc, ← Nat.pow_add, show 52 - b.log2 + b.log2 = 52 from by omega]
/-- Times 2^52: a normal number. -/
theorem mul_lift {b l m : Nat} (h0 : 0 < b) (h1 : b < 4503599627370496) (hm : 4503599627370496 ≤ m) (hm1 : m < 9007199254740992) (hl : l ≤ 51) (he : m * 2 ^ l = b * 2 ^ 52) : floatBits .mul .f64 b 4841369599423283200 = some (l * 4503599627370496 + m) := by
  show Ieee.double.mul _ _ = _
  unfold Format.mul
  rw [read_pos (b := b) (by omega), show Ieee.double.read 4841369599423283200 = .number false (2 ^ 52) 0 from by decide +kernel]
  simp only [Datum.product, Option.map_some, Format.write, Bool.false_bne, Bool.xor_self]
  have e1 : mg b = b := if_pos h1
  have e2 : pl b = 0 := by unfold pl; omega
  rw [e1, e2, ← he]
  have e := nearest_exact m l l hm hm1 (p := -1074 + ((0 : Nat) : Int) + 0) (by omega)
  rw [e, Nat.min_eq_left (by omega)]
/-- A small whole number as a float. -/
theorem float_small {b l m : Nat} (h0 : 0 < b) (h1 : b < 4503599627370496) (hlog : b.log2 = l) (hl : l ≤ 51) (hme : m = b * 2 ^ (52 - l)) (hm : 4503599627370496 ≤ m) (hm1 : m < 9007199254740992) : floatOfInt .f64 (b : Int) = (l + 1022) * 4503599627370496 + m := by
  show Ieee.double.nearest (decide ((b : Int) < 0)) (b : Int).natAbs 0 = _
  have hd : decide ((b : Int) < 0) = false := decide_eq_false (by omega)
  rw [hd, Int.natAbs_natCast]
  unfold Format.nearest
  rw [if_neg (by omega)]
  simp only [hlog, d_frac, d_least, d_binade, d_inf, d_word]
  have e1 : max ((0 : Int) + (l : Int) - ((52 : Nat) : Int)) (-1074) = (l : Int) - 52 := by omega
  have e2 : ((0 : Int) - ((l : Int) - 52)).toNat = 52 - l := by omega
  have e3 : ((l : Int) - 52 - 0).toNat = 0 := by omega
  have e4 : ((l : Int) - 52 - (-1074)).toNat = l + 1022 := by omega
  simp only [e1, e2, e3, e4, Nat.shiftLeft_eq, ← hme]
  have ec := cut_pow m 0 hm
  rw [Nat.pow_zero, Nat.mul_one] at ec
  rw [ec, Nat.min_eq_left (by omega)]
theorem cut_pow1 (b s : Nat) (hb : 0 < b) : Toward.even.cut false (b * 2 ^ s) s = b := by
  have h1 : s ≤ (b * 2 ^ s).log2 := by
    rw [Nat.le_log2 (Nat.ne_of_gt (Nat.mul_pos hb (Nat.two_pow_pos s)))]
    exact Nat.le_mul_of_pos_left _ hb
  unfold Toward.cut
  have h2 : min s ((b * 2 ^ s).log2 + 2) = s := by omega
  have h3 : 0 < 2 ^ s := Nat.two_pow_pos s
  simp only [h2, Nat.shiftLeft_eq, Nat.one_mul, Nat.mul_mod_left, Nat.mul_div_left _ h3]
  have h4 : decide (2 ^ s < 2 * 0) = false := by simp
  have h5 : (2 ^ s == 2 * 0) = false := by simp
  rw [h4, h5]; rfl
/-- Times 2^-53, down to a small number. -/
theorem mul_drop {b l m : Nat} (h0 : 0 < b) (h1 : b < 4503599627370496) (hl : l ≤ 51) (hme : m = b * 2 ^ (52 - l)) (hm : 4503599627370496 ≤ m) (hm1 : m < 9007199254740992) : floatBits .mul .f64 4368491638549381120 ((l + 1) * 4503599627370496 + m) = some b := by
  have hx : 4503599627370496 ≤ (l + 1) * 4503599627370496 + m := by omega
  have hx1 : (l + 1) * 4503599627370496 + m < 9218868437227405312 := by omega
  obtain ⟨m0, m1, m2⟩ := mg_norm hx
  have e1 : mg ((l + 1) * 4503599627370496 + m) = m := by unfold mg; rw [if_neg (by omega)]; omega
  have e2 : pl ((l + 1) * 4503599627370496 + m) = l + 1 := by unfold pl; omega
  show Ieee.double.mul _ _ = _
  unfold Format.mul
  rw [read_pos hx1, e1, e2, show Ieee.double.read 4368491638549381120 = .number false (2 ^ 52) (-105) from by decide +kernel]
  simp only [Datum.product, Option.map_some, Format.write, Bool.false_bne, Bool.xor_self]
  have e3 : 2 ^ 52 * m = b * 2 ^ (104 - l) := by
    rw [hme, Nat.mul_left_comm, ← Nat.pow_add, show 52 + (52 - l) = 104 - l from by omega]
  have e4 : (2 ^ 52 * m).log2 = 104 := by rw [Nat.mul_comm]; exact log2_pow m 52 hm hm1
  congr 1
  unfold Format.nearest
  rw [if_neg (by omega)]
  simp only [e4, d_frac, d_least, d_binade, d_inf, d_word]
  have e5 : max ((-105 : Int) + (-1074 + ((l + 1 : Nat) : Int)) + ((104 : Nat) : Int) - ((52 : Nat) : Int)) (-1074) = -1074 := by omega
  have e6 : ((-105 : Int) + (-1074 + ((l + 1 : Nat) : Int)) - (-1074)).toNat = 0 := by omega
  have e7 : ((-1074 : Int) - ((-105 : Int) + (-1074 + ((l + 1 : Nat) : Int)))).toNat = 104 - l := by omega
  have e8 : ((-1074 : Int) - (-1074)).toNat = 0 := by omega
  simp only [e5, e6, e7, e8, Nat.shiftLeft_zero, e3, cut_pow1 b _ h0]
  omega
/-- A float that is whole, as a whole number. -/
theorem float_to {q : Nat} (h : 4503599627370496 ≤ q) (h1 : q < 9007199254740992) : floatToIntVal .f64 (1074 * 4503599627370496 + q) .u64 = some (q : Int) := by
  have e1 : mg (1074 * 4503599627370496 + q) = q := by unfold mg; rw [if_neg (by omega)]; omega
  have e2 : pl (1074 * 4503599627370496 + q) = 1074 := by unfold pl; omega
  have hr : FloatKind.f64.decode (1074 * 4503599627370496 + q) = .number false q (-1074 + ((1074 : Nat) : Int)) := by
    show Ieee.double.read _ = _
    rw [read_pos (by omega), e1, e2]
  unfold floatToIntVal
  rw [hr]
  have ht : (Datum.number false q (-1074 + ((1074 : Nat) : Int))).toInt .zero = some (q : Int) := by
    unfold Datum.toInt Datum.integral
    have e3 : (-1074 + ((1074 : Nat) : Int)).toNat = 0 := by decide
    have e4 : (-(-1074 + ((1074 : Nat) : Int))).toNat = 0 := by decide
    simp only [e3, e4, Nat.shiftLeft_zero]
    have ec : Toward.zero.cut false q 0 = q := by
      unfold Toward.cut
      simp only [Nat.zero_min, Nat.shiftLeft_zero, Nat.mod_one, Nat.div_one]
      rfl
    rw [ec]
    simp [signed]
  rw [ht]
  simp only
  rw [if_pos]
  have e5 : IntKind.u64.min = 0 := by decide
  have e6 : IntKind.u64.max = 18446744073709551615 := by decide
  rw [e5, e6]; omega
end Go.Proofs.YtamhiecepipnjaaDoor.Pl
