/- Plain law of 64-bit floats without a sign: rungs and what they stand for. No program in sight. -/
import Derived.Laws.FloatArith
namespace Go.Proofs.YtamhiecepipnjaaDoor.Pl
open Go Ieee
set_option linter.unusedVariables false
set_option linter.unusedSimpArgs false

theorem d_binade : Ieee.double.binade = 4503599627370496 := by decide
theorem d_frac : Ieee.double.fractionBits = 52 := by decide
theorem d_least : Ieee.double.leastPlace = -1074 := by decide
theorem d_inf : Ieee.double.infRung = 9218868437227405312 := by decide
theorem d_sign : Ieee.double.signWeight = 9223372036854775808 := by decide
theorem d_word (r : Nat) : Ieee.double.word false r = r := by simp [Format.word]

/-- What a rung stands for: so many times two to a power, over 2^1074. -/
def mg (b : Nat) : Nat := if b < 4503599627370496 then b else 4503599627370496 + b % 4503599627370496
def pl (b : Nat) : Nat := b / 4503599627370496 - 1
theorem read_pos {b : Nat} (h : b < 9218868437227405312) : Ieee.double.read b = .number false (mg b) (-1074 + (pl b : Int)) := by
  unfold Format.read mg pl
  simp only [d_binade, d_least, d_inf, d_sign]
  have h1 : b / 9223372036854775808 % 2 = 0 := by omega
  have h2 : b % 9223372036854775808 = b := Nat.mod_eq_of_lt (by omega)
  rw [h1, h2]
  by_cases h3 : b < 4503599627370496
  · rw [if_pos h3, if_pos h3]
    have h4 : b / 4503599627370496 - 1 = 0 := by omega
    rw [h4]; rfl
  · rw [if_neg h3, if_neg h3, if_pos h]; rfl
theorem cut_pow (m s : Nat) (hm : 4503599627370496 ≤ m) : Toward.even.cut false (m * 2 ^ s) s = m := by
  have h1 : s ≤ (m * 2 ^ s).log2 := by
    rw [Nat.le_log2 (Nat.ne_of_gt (Nat.mul_pos (by omega) (Nat.two_pow_pos s)))]
    exact Nat.le_mul_of_pos_left _ (by omega)
  unfold Toward.cut
  have h2 : min s ((m * 2 ^ s).log2 + 2) = s := by omega
  have h3 : 0 < 2 ^ s := Nat.two_pow_pos s
  simp only [h2, Nat.shiftLeft_eq, Nat.one_mul, Nat.mul_mod_left, Nat.mul_div_left _ h3]
  have h4 : decide (2 ^ s < 2 * 0) = false := by simp
  have h5 : (2 ^ s == 2 * 0) = false := by simp
  rw [h4, h5]; rfl
theorem log2_pow (m s : Nat) (h0 : 4503599627370496 ≤ m) (h1 : m < 9007199254740992) : (m * 2 ^ s).log2 = 52 + s := by
  have h3 : 0 < 2 ^ s := Nat.two_pow_pos s
  have hne : m * 2 ^ s ≠ 0 := Nat.ne_of_gt (Nat.mul_pos (by omega) h3)
  refine (Nat.log2_eq_iff hne).2 ⟨?_, ?_⟩
  · rw [Nat.pow_add]; exact Nat.mul_le_mul_right _ h0
  · rw [show 52 + s + 1 = 53 + s from by omega, Nat.pow_add]; exact (Nat.mul_lt_mul_right h3).2 h1
/-- What fits is written as it is. -/
theorem nearest_exact (m s E : Nat) (hm : 4503599627370496 ≤ m) (hm1 : m < 9007199254740992) {p : Int} (hp : p = (E : Int) - 1074 - s) :
    Ieee.double.nearest false (m * 2 ^ s) p = min (E * 4503599627370496 + m) 9218868437227405312 := by
  unfold Format.nearest
  rw [if_neg (Nat.ne_of_gt (Nat.mul_pos (by omega) (Nat.two_pow_pos s)))]
  simp only [log2_pow m s hm hm1, d_frac, d_least, d_binade, d_inf, d_word]
  have h1 : max (p + ((52 + s : Nat) : Int) - ((52 : Nat) : Int)) (-1074) = (E : Int) - 1074 := by omega
  rw [h1]
  have h2 : (p - ((E : Int) - 1074)).toNat = 0 := by omega
  have h3 : ((E : Int) - 1074 - p).toNat = s := by omega
  have h4 : ((E : Int) - 1074 - (-1074)).toNat = E := by omega
  simp only [h2, h3, h4, Nat.shiftLeft_zero, cut_pow m s hm]
theorem mg_norm {b : Nat} (h : 4503599627370496 ≤ b) : 4503599627370496 ≤ mg b ∧ mg b < 9007199254740992 ∧ pl b * 4503599627370496 + mg b = b := by
  unfold mg pl
  rw [if_neg (by omega)]
  omega
/-- A normal number, times one and times two. -/
theorem mul_one_norm {b : Nat} (h : 4503599627370496 ≤ b) (h1 : b < 9218868437227405312) : floatBits .mul .f64 4607182418800017408 b = some b := by
  obtain ⟨m0, m1, m2⟩ := mg_norm h
  show Ieee.double.mul _ _ = _
  unfold Format.mul
  rw [read_pos h1, show Ieee.double.read 4607182418800017408 = .number false (2 ^ 52) (-52) from by decide +kernel]
  simp only [Datum.product, Option.map_some, Format.write, Bool.false_bne, Bool.xor_self]
  have e := nearest_exact (mg b) 52 (pl b) m0 m1 (p := -52 + (-1074 + (pl b : Int))) (by omega)
  rw [Nat.mul_comm] at e
  rw [e, m2, Nat.min_eq_left (by omega)]
theorem succ_bin (p m b C : Nat) (m2 : p * C + m = b) : (p + 1) * C + m = b + C := by rw [Nat.add_mul, Nat.one_mul]; omega
theorem mul_two_norm {b : Nat} (h : 4503599627370496 ≤ b) (h1 : b < 9214364837600034816) : floatBits .mul .f64 4611686018427387904 b = some (b + 4503599627370496) := by
  obtain ⟨m0, m1, m2⟩ := mg_norm h
  show Ieee.double.mul _ _ = _
  unfold Format.mul
  rw [read_pos (b := b) (by omega), show Ieee.double.read 4611686018427387904 = .number false (2 ^ 52) (-51) from by decide +kernel]
  simp only [Datum.product, Option.map_some, Format.write, Bool.false_bne, Bool.xor_self]
  have e2 : (pl b + 1) * 4503599627370496 + mg b = b + 4503599627370496 := succ_bin _ _ _ _ m2
  have e3 : b + 4503599627370496 ≤ 9218868437227405312 := by omega
  have e := nearest_exact (mg b) 52 (pl b + 1) m0 m1 (p := -51 + (-1074 + (pl b : Int))) (by omega)
  rw [Nat.mul_comm] at e
  rw [e, e2, Nat.min_eq_left e3]
theorem mul_two_zero : floatBits .mul .f64 4611686018427387904 0 = some 0 := by decide +kernel
/-- A whole number of 53 bits (or 2^53) as a float. -/
theorem float_of {q : Nat} (h : 4503599627370496 ≤ q) (h1 : q ≤ 9007199254740992) : floatOfInt .f64 (q : Int) = 1074 * 4503599627370496 + q := by
  show Ieee.double.nearest (decide ((q : Int) < 0)) (q : Int).natAbs 0 = _
  have h0 : decide ((q : Int) < 0) = false := decide_eq_false (by omega)
  rw [h0, Int.natAbs_natCast]
  by_cases h2 : q = 9007199254740992
  · subst h2; decide +kernel
  · have e := nearest_exact q 0 1074 h (by omega) (p := 0) (by omega)
    rw [Nat.pow_zero, Nat.mul_one] at e
    rw [e, Nat.min_eq_left (by omega)]
theorem float_of_zero : floatOfInt .f64 0 = 0 := by decide +kernel
/-! ### The order -/
theorem val_mono {a b : Nat} (h : a < b) : mg a * 2 ^ pl a < mg b * 2 ^ pl b := by
  have hb := Nat.two_pow_pos (pl b)
  by_cases h1 : b < 4503599627370496
  · have e : ∀ c, c < 4503599627370496 → mg c = c ∧ pl c = 0 := fun c hc => ⟨if_pos hc, by unfold pl; omega⟩
    rw [(e a (by omega)).1, (e a (by omega)).2, (e b h1).1, (e b h1).2]; omega
  · obtain ⟨m0, m1, m2⟩ := mg_norm (Nat.not_lt.1 h1)
    by_cases h2 : a < 4503599627370496
    · have e1 : mg a = a := if_pos h2
      have e2 : pl a = 0 := by unfold pl; omega
      rw [e1, e2, Nat.pow_zero, Nat.mul_one]
      exact Nat.lt_of_lt_of_le (by omega) (Nat.le_mul_of_pos_right _ hb)
    · obtain ⟨n0, n1, n2⟩ := mg_norm (Nat.not_lt.1 h2)
      rcases Nat.lt_trichotomy (pl a) (pl b) with h3 | h3 | h3
      · have h4 : 2 ^ (pl a + 1) ≤ 2 ^ pl b := Nat.pow_le_pow_right (by omega) h3
        rw [Nat.pow_succ] at h4
        have h5 : mg a * 2 ^ pl a < 9007199254740992 * 2 ^ pl a := (Nat.mul_lt_mul_right (Nat.two_pow_pos _)).2 n1
        have h6 : 4503599627370496 * 2 ^ pl b ≤ mg b * 2 ^ pl b := Nat.mul_le_mul_right _ m0
        omega
      · rw [h3]; exact (Nat.mul_lt_mul_right hb).2 (by omega)
      · omega
theorem scaled {m n i j : Nat} {base : Int} (hb : base = min (-1074 + (i : Int)) (-1074 + (j : Int))) (h : m * 2 ^ i < n * 2 ^ j) :
    (m <<< ((-1074 + (i : Int)) - base).toNat) < (n <<< ((-1074 + (j : Int)) - base).toNat) := by
  obtain ⟨t, ht⟩ : ∃ t : Nat, t = min i j := ⟨_, rfl⟩
  have e1 : ((-1074 + (i : Int)) - base).toNat + t = i := by omega
  have e2 : ((-1074 + (j : Int)) - base).toNat + t = j := by omega
  refine Nat.lt_of_mul_lt_mul_right (a := 2 ^ t) ?_
  rw [Nat.shiftLeft_eq, Nat.shiftLeft_eq, Nat.mul_assoc, Nat.mul_assoc, ← Nat.pow_add, ← Nat.pow_add, e1, e2]; exact h
theorem order_lt {a b : Nat} (hb : b < 9218868437227405312) (h : a < b) : FloatKind.f64.format.order a b = some .lt := by
  show Ieee.double.order a b = _
  unfold Format.order
  rw [read_pos (b := a) (by omega), read_pos hb]
  simp only [Datum.order, signed, Bool.false_eq_true, if_false]
  have := scaled rfl (val_mono h)
  rw [show (compare _ _ : Ordering) = .lt from (Int.compare_eq_lt).2 (Int.ofNat_lt.2 this)]
theorem order_gt {a b : Nat} (ha : a < 9218868437227405312) (h : b < a) : FloatKind.f64.format.order a b = some .gt := by
  show Ieee.double.order a b = _
  unfold Format.order
  rw [read_pos (b := b) (by omega), read_pos ha]
  simp only [Datum.order, signed, Bool.false_eq_true, if_false]
  have := scaled (base := min (-1074 + (pl a : Int)) (-1074 + (pl b : Int))) (Int.min_comm _ _) (val_mono h)
  rw [show (compare _ _ : Ordering) = .gt from (Int.compare_eq_gt).2 (Int.ofNat_lt.2 this)]
theorem order_eq {a : Nat} (ha : a < 9218868437227405312) : FloatKind.f64.format.order a a = some .eq := by
  show Ieee.double.order a a = _
  unfold Format.order
  rw [read_pos ha]
  simp only [Datum.order]
  rw [show (compare _ _ : Ordering) = .eq from (Int.compare_eq_eq).2 rfl]
end Go.Proofs.YtamhiecepipnjaaDoor.Pl
