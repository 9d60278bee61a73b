/- Plain law of 64-bit floats, third part: signs, the infinite ones, what is no number; one binade's form alone. No program in sight. -/
import Derived.Test.YtamhiecepipnjaaDoorC1
namespace Go.Proofs.YtamhiecepipnjaaDoor.Pl
open Go Ieee
set_option linter.unusedVariables false
set_option linter.unusedSimpArgs false

theorem read_neg {c : Nat} (h : c < 9218868437227405312) : Ieee.double.read (9223372036854775808 + c) = .number true (mg c) (-1074 + (pl c : Int)) := by
  have e1 : (9223372036854775808 + c) / 9223372036854775808 % 2 = 1 := by omega
  have e2 : (9223372036854775808 + c) % 9223372036854775808 = c := by omega
  have hp := read_pos h
  unfold Format.read at hp ⊢
  simp only [d_binade, d_least, d_inf, d_sign] at hp ⊢
  rw [e1, e2]
  have e3 : c / 9223372036854775808 % 2 = 0 := by omega
  have e4 : c % 9223372036854775808 = c := Nat.mod_eq_of_lt (by omega)
  rw [e3, e4] at hp
  by_cases h3 : c < 4503599627370496
  · rw [if_pos h3] at hp ⊢
    injection hp with _ h5 h6
    rw [← h5, ← h6]; rfl
  · rw [if_neg h3, if_pos h] at hp ⊢
    injection hp with _ h5 h6
    rw [← h5, ← h6]; rfl
theorem read_zero : Ieee.double.read 0 = .number false 0 (-1074) := by decide +kernel
theorem mg_pos {c : Nat} (h : 0 < c) : 0 < mg c := by unfold mg; split <;> omega
theorem order_neg {c : Nat} (h0 : 0 < c) (h : c < 9218868437227405312) : FloatKind.f64.format.order (9223372036854775808 + c) 0 = some .lt := by
  show Ieee.double.order _ _ = _
  unfold Format.order
  rw [read_neg h, read_zero]
  simp only [Datum.order, signed, Bool.false_eq_true, if_false, if_true]
  have hm := mg_pos h0
  rw [show (compare _ _ : Ordering) = .lt from (Int.compare_eq_lt).2 ?_]
  rw [Nat.zero_shiftLeft, Nat.shiftLeft_eq]
  have := Nat.mul_pos hm (Nat.two_pow_pos (-1074 + (pl c : Int) - min (-1074 + (pl c : Int)) (-1074)).toNat)
  omega
theorem order_neg_self {c : Nat} (h : c < 9218868437227405312) : FloatKind.f64.format.order (9223372036854775808 + c) (9223372036854775808 + c) = some .eq := by
  show Ieee.double.order _ _ = _
  unfold Format.order
  rw [read_neg h]
  simp only [Datum.order]
  rw [show (compare _ _ : Ordering) = .eq from (Int.compare_eq_eq).2 rfl]
theorem read_nan {s f : Nat} (hs : s ≤ 1) (h0 : 1 ≤ f) (h1 : f < 4503599627370496) : Ieee.double.read (s * 9223372036854775808 + 9218868437227405312 + f) = .nan (s == 1) f := by
  have e4 : (s * 9223372036854775808 + 9218868437227405312 + f) / 9223372036854775808 % 2 = s := by omega
  have e5 : (s * 9223372036854775808 + 9218868437227405312 + f) % 9223372036854775808 = 9218868437227405312 + f := by omega
  unfold Format.read
  simp only [d_binade, d_inf, d_sign, e4, e5]
  rw [if_neg (by omega), if_neg (by omega), if_neg (by omega), Nat.add_sub_cancel_left]
theorem order_nan {s f : Nat} (hs : s ≤ 1) (h0 : 1 ≤ f) (h1 : f < 4503599627370496) (b : Nat) : FloatKind.f64.format.order (s * 9223372036854775808 + 9218868437227405312 + f) b = none := by
  show Ieee.double.order _ _ = _
  unfold Format.order
  rw [read_nan hs h0 h1]
  rfl
/-- One form alone. -/
theorem Bin.only {X d : Int} {E F q p : Nat} {R S : Int} (h : Bin X d E q R) (k : Bin X d F p S) (hd : 0 < d) : E = F ∧ q = p ∧ R = S := by
  have hEF : E = F := by
    have key : ∀ {E F q p : Nat} {R S : Int}, Bin X d E q R → Bin X d F p S → ¬ E < F := by
      intro E F q p R S h k hlt
      have l1 := k.lo hd
      have l2 := h.hi hd
      have hP : 2 * P2 E ≤ P2 F := by rw [← P2_succ]; exact P2_mono hlt
      have m3 : d * (2 * P2 E) ≤ d * P2 F := Int.mul_le_mul_of_nonneg_left hP (Int.le_of_lt hd)
      have e2 : d * (2 * P2 E) = 2 * (d * P2 E) := by grind
      omega
    rcases Nat.lt_trichotomy E F with h1 | h1 | h1
    · exact absurd h1 (key h k)
    · exact h1
    · exact absurd h1 (key k h)
  subst hEF
  have hM : 0 < d * P2 E := Int.mul_pos hd (P2_pos E)
  have e := h.hX.symm.trans k.hX
  have hq : q = p := by
    have key : ∀ {q p : Nat} {R S : Int}, 0 ≤ R → S < d * P2 E → (q : Int) * (d * P2 E) + R = p * (d * P2 E) + S → ¬ p < q := by
      intro q p R S h0 h1 e hlt
      have : ((p : Int) + 1) * (d * P2 E) ≤ q * (d * P2 E) := Int.mul_le_mul_of_nonneg_right (by omega) (Int.le_of_lt hM)
      rw [Int.add_mul, Int.one_mul] at this
      omega
    rcases Nat.lt_trichotomy q p with h1 | h1 | h1
    · exact absurd h1 (key k.hR h.hR1 e.symm)
    · exact h1
    · exact absurd h1 (key h.hR k.hR1 e)
  subst hq
  exact ⟨rfl, rfl, by omega⟩
end Go.Proofs.YtamhiecepipnjaaDoor.Pl
