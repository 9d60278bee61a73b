/- Plain law of who stands ahead: ranks as fractions, keys as bytes. No program in sight. -/
import Derived.Test.YthjiiifnlhbffaaDoorA1
import Derived.Lib.Bytealg
namespace Go.Proofs.YthjiiifnlhbffaaDoor.Pl
open Go.Lib
set_option linter.unusedVariables false
set_option linter.unusedSimpArgs false

/-! ### Bytes -/
theorem cb_range : ∀ a b : List UInt8, compareBytes a b = -1 ∨ compareBytes a b = 0 ∨ compareBytes a b = 1
  | [], [] => by simp [compareBytes]
  | [], _ :: _ => by simp [compareBytes]
  | _ :: _, [] => by simp [compareBytes]
  | a :: as, b :: bs => by
    unfold compareBytes
    split
    · simp
    · split
      · simp
      · exact cb_range as bs
theorem cb_anti : ∀ a b : List UInt8, compareBytes b a = -compareBytes a b
  | [], [] => by simp [compareBytes]
  | [], _ :: _ => by simp [compareBytes]
  | _ :: _, [] => by simp [compareBytes]
  | a :: as, b :: bs => by
    have ih := cb_anti as bs
    unfold compareBytes
    by_cases h1 : a < b
    · rw [if_neg (UInt8.lt_asymm h1), if_pos h1, if_pos h1]; rfl
    · by_cases h2 : b < a
      · rw [if_pos h2, if_neg h1, if_pos h2]
      · rw [if_neg h2, if_neg h1, if_neg h1, if_neg h2, ih]
theorem cb_zero : ∀ a b : List UInt8, compareBytes a b = 0 ↔ a = b
  | [], [] => by simp [compareBytes]
  | [], _ :: _ => by simp [compareBytes]
  | _ :: _, [] => by simp [compareBytes]
  | a :: as, b :: bs => by
    have ih := cb_zero as bs
    unfold compareBytes
    by_cases h1 : a < b
    · rw [if_pos h1]
      simp only [List.cons.injEq]
      exact ⟨fun h => by omega, fun h => absurd h1 (by rw [h.1]; exact UInt8.lt_irrefl b)⟩
    · by_cases h2 : b < a
      · rw [if_neg h1, if_pos h2]
        simp only [List.cons.injEq]
        exact ⟨fun h => by omega, fun h => absurd h2 (by rw [h.1]; exact UInt8.lt_irrefl b)⟩
      · rw [if_neg h1, if_neg h2, ih]
        have e : a = b := UInt8.le_antisymm (UInt8.not_lt.1 h2) (UInt8.not_lt.1 h1)
        simp [e]
theorem cb_trans : ∀ a b c : List UInt8, compareBytes a b ≤ 0 → compareBytes b c ≤ 0 → compareBytes a c ≤ 0
  | [], _, [] => fun _ _ => by simp [compareBytes]
  | [], _, _ :: _ => fun _ _ => by simp [compareBytes]
  | a :: as, [], c => fun h _ => by simp [compareBytes] at h
  | a :: as, b :: bs, [] => fun _ h => by simp [compareBytes] at h
  | a :: as, b :: bs, c :: cs => fun h1 h2 => by
    have ih := cb_trans as bs cs
    unfold compareBytes at h1 h2 ⊢
    by_cases ab : a < b
    · by_cases bc : b < c
      · rw [if_pos (UInt8.lt_trans ab bc)]; decide
      · rw [if_neg bc] at h2
        by_cases cb : c < b
        · rw [if_pos cb] at h2; omega
        · have e : b = c := UInt8.le_antisymm (UInt8.not_lt.1 cb) (UInt8.not_lt.1 bc)
          rw [← e, if_pos ab]; decide
    · rw [if_neg ab] at h1
      by_cases ba : b < a
      · rw [if_pos ba] at h1; omega
      · have e : a = b := UInt8.le_antisymm (UInt8.not_lt.1 ba) (UInt8.not_lt.1 ab)
        rw [if_neg ba] at h1
        rw [e]
        by_cases bc : b < c
        · rw [if_pos bc]; decide
        · rw [if_neg bc] at h2 ⊢
          by_cases cb : c < b
          · rw [if_pos cb] at h2; omega
          · rw [if_neg cb] at h2 ⊢
            exact ih h1 h2

/-! ### Ranks, and the order -/
/-- A key, its hash, its weight. -/
structure It where
  k : List UInt8
  u : Int
  w : Int
/-- What stands ahead by its rank, or as far. -/
def rkLe (x y : It) : Prop := x.u * y.w ≤ y.u * x.w
theorem rkLe.trans {x y z : It} (hx : 0 < x.w) (hy : 0 < y.w) (hz : 0 < z.w) (h1 : rkLe x y) (h2 : rkLe y z) : rkLe x z := by
  unfold rkLe at *
  have a1 := Int.mul_le_mul_of_nonneg_right h1 (Int.le_of_lt hz)
  have a2 := Int.mul_le_mul_of_nonneg_right h2 (Int.le_of_lt hx)
  have e1 : x.u * y.w * z.w = x.u * z.w * y.w := by grind
  have e2 : y.u * x.w * z.w = y.u * z.w * x.w := by grind
  have e3 : z.u * y.w * x.w = z.u * x.w * y.w := by grind
  exact (Int.mul_le_mul_right hy).1 (by omega)
theorem rkLe.refl (x : It) : rkLe x x := Int.le_refl _
def sg (a b : Int) : Int := if a < b then -1 else if a > b then 1 else 0
def cmpIt (x y : It) : Int := if sg (x.u * y.w) (y.u * x.w) = 0 then compareBytes x.k y.k else sg (x.u * y.w) (y.u * x.w)
theorem sg_anti (a b : Int) : sg b a = -sg a b := by unfold sg; split <;> split <;> (try split) <;> omega
theorem cmp_anti (x y : It) : cmpIt y x = -cmpIt x y := by
  unfold cmpIt
  rw [sg_anti (x.u * y.w), cb_anti x.k y.k]
  by_cases h : sg (x.u * y.w) (y.u * x.w) = 0
  · rw [if_pos (by omega), if_pos h]
  · rw [if_neg (by omega), if_neg h]
theorem cmp_range (x y : It) : cmpIt x y = -1 ∨ cmpIt x y = 0 ∨ cmpIt x y = 1 := by
  unfold cmpIt
  split
  · exact cb_range _ _
  · unfold sg; split
    · simp
    · split <;> simp
theorem cmp_le {x y : It} : cmpIt x y ≤ 0 ↔ rkLe x y ∧ (x.u * y.w = y.u * x.w → compareBytes x.k y.k ≤ 0) := by
  unfold cmpIt rkLe sg
  by_cases h1 : x.u * y.w < y.u * x.w
  · simp only [if_pos h1]
    simp
    omega
  · by_cases h2 : x.u * y.w > y.u * x.w
    · simp only [if_neg h1, if_pos h2]
      simp
      omega
    · simp only [if_neg h1, if_neg h2]
      simp
      omega
theorem cmp_rk {x y : It} (h : cmpIt x y ≤ 0) : rkLe x y := (cmp_le.1 h).1
theorem cmp_trans {x y z : It} (hx : 0 < x.w) (hy : 0 < y.w) (hz : 0 < z.w) (h1 : cmpIt x y ≤ 0) (h2 : cmpIt y z ≤ 0) : cmpIt x z ≤ 0 := by
  obtain ⟨a1, a2⟩ := cmp_le.1 h1
  obtain ⟨b1, b2⟩ := cmp_le.1 h2
  refine cmp_le.2 ⟨a1.trans hx hy hz b1, fun e => ?_⟩
  have c1 : rkLe z x := Int.le_of_eq e.symm
  have d1 : rkLe z y := c1.trans hz hx hy a1
  have d2 : rkLe y x := b1.trans hy hz hx c1
  exact cb_trans _ _ _ (a2 (Int.le_antisymm a1 d2)) (b2 (Int.le_antisymm b1 d1))
theorem cmp_lt_le {x y z : It} (hx : 0 < x.w) (hy : 0 < y.w) (hz : 0 < z.w) (h1 : cmpIt x y ≤ 0) (h2 : cmpIt y z < 0) : cmpIt x z < 0 := by
  rcases Int.lt_or_le (cmpIt x z) 0 with h | h
  · exact h
  · have h3 : cmpIt z x ≤ 0 := by rw [cmp_anti x z]; omega
    have h4 := cmp_trans hz hx hy h3 h1
    have := cmp_anti y z
    omega
theorem cmp_self (x : It) : cmpIt x x = 0 := by
  have := cmp_anti x x
  omega
end Go.Proofs.YthjiiifnlhbffaaDoor.Pl
