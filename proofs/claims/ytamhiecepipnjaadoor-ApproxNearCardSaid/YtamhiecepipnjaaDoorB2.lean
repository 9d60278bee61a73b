/- Plain law of rounding a fraction to 53 bits. No program in sight. -/
import Derived.Test.YtamhiecepipnjaaDoorB1
namespace Go.Proofs.YtamhiecepipnjaaDoor.Pl
set_option linter.unusedVariables false
/-- Powers of two. -/
def P2 (n : Nat) : Int := 2 ^ n
theorem P2_zero : P2 0 = 1 := rfl
theorem P2_succ (n : Nat) : P2 (n + 1) = 2 * P2 n := by unfold P2; rw [Int.pow_succ, Int.mul_comm]
theorem P2_add (m n : Nat) : P2 (m + n) = P2 m * P2 n := by unfold P2; rw [Int.pow_add]
theorem P2_pos (n : Nat) : 0 < P2 n := by
  induction n with
  | zero => decide
  | succ n ih => rw [P2_succ]; omega
theorem P2_mono {m n : Nat} (h : m ≤ n) : P2 m ≤ P2 n := by
  obtain ⟨k, rfl⟩ := Nat.exists_eq_add_of_le h
  rw [P2_add]
  have h1 := P2_pos m
  have h2 : 1 ≤ P2 k := P2_pos k
  have := Int.mul_le_mul_of_nonneg_left h2 (Int.le_of_lt h1)
  omega
theorem P2_nat (n : Nat) : ((2 ^ n : Nat) : Int) = P2 n := by unfold P2; simp
/-- The rounding: rup, down, or to the even one. -/
def rup (q : Nat) (R D : Int) : Nat := if 2 * R > D ∨ 2 * R = D ∧ q % 2 = 1 then q + 1 else q
theorem rup_le (q : Nat) (R D : Int) : q ≤ rup q R D ∧ rup q R D ≤ q + 1 := by unfold rup; split <;> omega
/-- 'X / d', X a numerator over 2^1074, in 53 bits: the last bit's place (above the least), the bits, the rest. -/
structure Bin (X d : Int) (E q : Nat) (R : Int) : Prop where
  h0 : 4503599627370496 ≤ q
  h1 : q < 9007199254740992
  hR : 0 ≤ R
  hR1 : R < d * P2 E
  hX : X = q * (d * P2 E) + R
theorem Bin.lo {X d : Int} {E q : Nat} {R : Int} (h : Bin X d E q R) (hd : 0 < d) : 4503599627370496 * (d * P2 E) ≤ X := by
  have h1 : 0 < d * P2 E := Int.mul_pos hd (P2_pos E)
  have h2 : (4503599627370496 : Int) * (d * P2 E) ≤ q * (d * P2 E) := Int.mul_le_mul_of_nonneg_right (by have := h.h0; omega) (Int.le_of_lt h1)
  have h3 := h.hX; have h4 := h.hR
  omega
theorem Bin.hi {X d : Int} {E q : Nat} {R : Int} (h : Bin X d E q R) (hd : 0 < d) : X < 9007199254740992 * (d * P2 E) := by
  have h1 : 0 < d * P2 E := Int.mul_pos hd (P2_pos E)
  have h2 : ((q : Int) + 1) * (d * P2 E) ≤ 9007199254740992 * (d * P2 E) := Int.mul_le_mul_of_nonneg_right (by have := h.h1; omega) (Int.le_of_lt h1)
  rw [Int.add_mul, Int.one_mul] at h2
  have h3 := h.hX; have h4 := h.hR1
  omega
theorem lt_cancel {a b c : Int} (hc : 0 < c) (h : a * c < b * c) : a < b := (Int.mul_lt_mul_right hc).1 h
theorem le_cancel {a b c : Int} (hc : 0 < c) (h : a * c ≤ b * c) : a ≤ b := (Int.mul_le_mul_right hc).1 h
/-- Two fractions, the first not above the second: nor are what they are rounded to. -/
theorem Bin.mono {X d Y e : Int} {E F q p : Nat} {R S : Int} (h : Bin X d E q R) (k : Bin Y e F p S) (hd : 0 < d) (he : 0 < e) (hle : X * e ≤ Y * d) :
    E * 4503599627370496 + rup q R (d * P2 E) ≤ F * 4503599627370496 + rup p S (e * P2 F) := by
  have u1 := rup_le q R (d * P2 E); have u2 := rup_le p S (e * P2 F)
  have a0 := h.h0; have a1 := h.h1; have b0 := k.h0; have b1 := k.h1
  rcases Nat.lt_trichotomy E F with hEF | hEF | hEF
  · omega
  · subst hEF
    have hP := P2_pos E
    -- the products by the two denominators
    have g1 : ((q : Int) * (d * P2 E) + R) * e ≤ ((p : Int) * (e * P2 E) + S) * d := by rw [← h.hX, ← k.hX]; exact hle
    have hRe : 0 ≤ R * e := Int.mul_nonneg h.hR (Int.le_of_lt he)
    have hSd : S * d < (e * P2 E) * d := (Int.mul_lt_mul_right hd).2 k.hR1
    have hM : 0 < e * P2 E * d := Int.mul_pos (Int.mul_pos he hP) hd
    have g2 : (q : Int) * (e * P2 E * d) + R * e ≤ (p : Int) * (e * P2 E * d) + S * d := by
      have e1 : ((q : Int) * (d * P2 E) + R) * e = (q : Int) * (e * P2 E * d) + R * e := by grind
      have e2 : ((p : Int) * (e * P2 E) + S) * d = (p : Int) * (e * P2 E * d) + S * d := by grind
      rw [← e1, ← e2]; exact g1
    have g3 : (q : Int) < p + 1 := by
      refine lt_cancel hM ?_
      rw [Int.add_mul, Int.one_mul]
      omega
    rcases Nat.lt_or_ge q p with hqp | hqp
    · omega
    · have hqp2 : q = p := by omega
      subst hqp2
      have g4 : R * e ≤ S * d := by omega
      suffices rup q R (d * P2 E) ≤ rup q S (e * P2 E) by omega
      unfold rup
      by_cases hc : 2 * R > d * P2 E ∨ 2 * R = d * P2 E ∧ q % 2 = 1
      · rw [if_pos hc]
        have g5 : d * P2 E * e = e * P2 E * d := by grind
        have g6 : 2 * R * e = 2 * (R * e) := by grind
        have g7 : 2 * S * d = 2 * (S * d) := by grind
        rcases hc with hc | ⟨hc, hq⟩
        · have g8 : e * P2 E < 2 * S := by
            refine lt_cancel hd ?_
            have := (Int.mul_lt_mul_right he).2 hc
            omega
          rw [if_pos (.inl (by omega))]
          exact Nat.le_refl _
        · have g8 : e * P2 E ≤ 2 * S := by
            refine le_cancel hd ?_
            have : 2 * R * e = d * P2 E * e := by rw [hc]
            omega
          rw [if_pos (by omega)]
          exact Nat.le_refl _
      · rw [if_neg hc]; split <;> omega
  · exfalso
    have l1 := h.lo hd
    have l2 := k.hi he
    have hP : 2 * P2 F ≤ P2 E := by rw [← P2_succ]; exact P2_mono hEF
    have m1 : 4503599627370496 * (d * P2 E) * e ≤ X * e := Int.mul_le_mul_of_nonneg_right l1 (Int.le_of_lt he)
    have m2 : Y * d < 9007199254740992 * (e * P2 F) * d := (Int.mul_lt_mul_right hd).2 l2
    have m3 : (d * e) * (2 * P2 F) ≤ (d * e) * P2 E := Int.mul_le_mul_of_nonneg_left hP (Int.le_of_lt (Int.mul_pos hd he))
    have e1 : 4503599627370496 * (d * P2 E) * e = 4503599627370496 * ((d * e) * P2 E) := by grind
    have e2 : 9007199254740992 * (e * P2 F) * d = 4503599627370496 * ((d * e) * (2 * P2 F)) := by grind
    omega
theorem Bin.same {X d Y e : Int} {E F q p : Nat} {R S : Int} (h : Bin X d E q R) (k : Bin Y e F p S) (hd : 0 < d) (he : 0 < e) (hle : X * e = Y * d) :
    E * 4503599627370496 + rup q R (d * P2 E) = F * 4503599627370496 + rup p S (e * P2 F) :=
  Nat.le_antisymm (h.mono k hd he (Int.le_of_eq hle)) (k.mono h he hd (Int.le_of_eq hle.symm))
/-- Twice a fraction. -/
theorem Bin.twice {X d Y e : Int} {E F q p : Nat} {R S : Int} (h : Bin X d E q R) (k : Bin Y e F p S) (hd : 0 < d) (he : 0 < e) (hle : Y * d = 2 * X * e) :
    F * 4503599627370496 + rup p S (e * P2 F) = E * 4503599627370496 + rup q R (d * P2 E) + 4503599627370496 := by
  have h2 : Bin (2 * X) d (E + 1) q (2 * R) := by
    refine ⟨h.h0, h.h1, by have := h.hR; omega, ?_, ?_⟩
    · rw [P2_succ]; have := h.hR1; have e1 : d * (2 * P2 E) = 2 * (d * P2 E) := by grind
      omega
    · rw [P2_succ, h.hX]; grind
  have h3 := h2.same k hd he (by rw [hle])
  rw [← h3]
  have h4 : rup q (2 * R) (d * P2 (E + 1)) = rup q R (d * P2 E) := by
    unfold rup
    rw [P2_succ, show d * (2 * P2 E) = 2 * (d * P2 E) from by grind]
    have c : (2 * (2 * R) > 2 * (d * P2 E) ∨ 2 * (2 * R) = 2 * (d * P2 E) ∧ q % 2 = 1) ↔ (2 * R > d * P2 E ∨ 2 * R = d * P2 E ∧ q % 2 = 1) := by omega
    simp only [c]
  rw [h4]
  omega
/-- What Float tells of n / d: nothing, or the nearest. -/
def Near (n d : Int) (b : Nat) : Prop := n = 0 ∧ b = 0 ∨ 0 < n ∧ ∃ (E q : Nat) (R : Int), E ≤ 2044 ∧ Bin (n * P2 1074) d E q R ∧ b = E * 4503599627370496 + rup q R (d * P2 E)
theorem Near.bound {n d : Int} {b : Nat} (h : Near n d b) : b = 0 ∨ 4503599627370496 ≤ b ∧ b < 9218868437227405312 := by
  rcases h with ⟨_, h⟩ | ⟨_, E, q, R, hE, hb, h⟩
  · exact .inl h
  · have := rup_le q R (d * P2 E); have := hb.h0; have := hb.h1
    omega
theorem Near.mono {n d m e : Int} {b c : Nat} (h : Near n d b) (k : Near m e c) (hd : 0 < d) (he : 0 < e) (hle : n * e ≤ m * d) : b ≤ c := by
  rcases h with ⟨_, h⟩ | ⟨hn, E, q, R, hE, hb, h⟩
  · omega
  · rcases k with ⟨k0, k⟩ | ⟨hm, F, p, S, hF, kb, k⟩
    · rw [k0, Int.zero_mul] at hle
      have := Int.mul_pos hn he
      omega
    · rw [h, k]
      refine hb.mono kb hd he ?_
      have := Int.mul_le_mul_of_nonneg_right hle (Int.le_of_lt (P2_pos 1074))
      generalize P2 1074 = P at *
      have e1 : n * P * e = n * e * P := by grind
      have e2 : m * P * d = m * d * P := by grind
      rw [e1, e2]; exact this
theorem Near.twice {n d m e : Int} {b c : Nat} (h : Near n d b) (k : Near m e c) (hd : 0 < d) (he : 0 < e) (hle : m * d = 2 * n * e) : b = 0 ∧ c = 0 ∨ 4503599627370496 ≤ b ∧ b < 9218868437227405312 ∧ c < 9218868437227405312 ∧ c = b + 4503599627370496 := by
  rcases h with ⟨h0, h⟩ | ⟨hn, E, q, R, hE, hb, h⟩
  · refine .inl ⟨h, ?_⟩
    rcases k with ⟨k0, k⟩ | ⟨hm, F, p, S, hF, kb, k⟩
    · exact k
    · rw [h0] at hle
      have := Int.mul_pos hm hd
      simp at hle
      omega
  · rcases k with ⟨k0, k⟩ | ⟨hm, F, p, S, hF, kb, k⟩
    · rw [k0, Int.zero_mul] at hle
      have := Int.mul_pos (Int.mul_pos (show (0 : Int) < 2 by decide) hn) he
      omega
    · right
      have hh := hb.twice kb hd he (by
        generalize P2 1074 = P at *
        have e1 : m * P * d = m * d * P := by grind
        have e2 : 2 * (n * P) * e = 2 * n * e * P := by grind
        rw [e1, e2, hle])
      have b1 := (Near.bound (.inr ⟨hn, E, q, R, hE, hb, h⟩))
      have b2 := (Near.bound (.inr ⟨hm, F, p, S, hF, kb, k⟩))
      have := rup_le q R (d * P2 E); have := hb.h0
      omega
end Go.Proofs.YtamhiecepipnjaaDoor.Pl
