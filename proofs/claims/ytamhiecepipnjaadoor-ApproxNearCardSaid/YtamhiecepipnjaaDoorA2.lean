/- Plain arithmetic of limbs, second part: the division by one limb, shifts, and the long division. No program in sight. -/
import Derived.Test.YtamhiecepipnjaaDoorA1
namespace Go.Proofs.YtamhiecepipnjaaDoor.Pl
set_option linter.unusedVariables false

/-! ### A division by one limb -/
def shortT (b : Int) : List Int → Int → List Int × Int
  | [], r => ([], r)
  | x :: a, r => (((shortT b a r).2 * 4294967296 + x) / b :: (shortT b a r).1, ((shortT b a r).2 * 4294967296 + x) % b)
theorem shortT_len (b : Int) : ∀ a r, (shortT b a r).1.length = a.length
  | [], _ => rfl
  | x :: a, r => by simp [shortT, shortT_len b a r]
theorem shortT_snoc (b : Int) : ∀ a x r, shortT b (a ++ [x]) r = ((shortT b a ((r * 4294967296 + x) % b)).1 ++ [(r * 4294967296 + x) / b], (shortT b a ((r * 4294967296 + x) % b)).2)
  | [], x, r => by simp [shortT]
  | y :: a, x, r => by simp only [List.cons_append, shortT, shortT_snoc b a x r]
theorem step_bound {b r x : Int} (hb : 0 < b) (h0 : 0 ≤ r) (h1 : r < b) (hx : 0 ≤ x ∧ x < 4294967296) : 0 ≤ (r * 4294967296 + x) / b ∧ (r * 4294967296 + x) / b < 4294967296 := by
  refine ⟨Int.ediv_nonneg (by omega) (by omega), ?_⟩
  refine Int.ediv_lt_of_lt_mul hb ?_
  have : r * 4294967296 + x < (r + 1) * 4294967296 := by omega
  have h2 : (r + 1) * 4294967296 ≤ b * 4294967296 := by omega
  rw [Int.mul_comm 4294967296 b]; omega
theorem shortT_rest {b : Int} (hb : 0 < b) : ∀ {a r}, 0 ≤ r → r < b → 0 ≤ (shortT b a r).2 ∧ (shortT b a r).2 < b
  | [], r, h0, h1 => ⟨h0, h1⟩
  | x :: a, r, h0, h1 => ⟨Int.emod_nonneg _ (by omega), Int.emod_lt_of_pos _ hb⟩
theorem shortT_Wf {b : Int} (hb : 0 < b) : ∀ {a r}, Wf a → 0 ≤ r → r < b → Wf (shortT b a r).1
  | [], r, ha, h0, h1 => Wf.nil
  | x :: a, r, ha, h0, h1 => by
    have hr := shortT_rest hb (a := a) h0 h1
    have := step_bound hb hr.1 hr.2 ha.head
    exact Wf.cons this.1 this.2 (shortT_Wf hb ha.tail h0 h1)
theorem shortT_V {b : Int} (hb : 0 < b) : ∀ a, V (shortT b a 0).1 * b + (shortT b a 0).2 = V a
  | [] => by simp [shortT, V]
  | x :: a => by
    have ih := shortT_V hb a
    simp only [shortT, V]
    have e := Int.mul_ediv_add_emod ((shortT b a 0).2 * 4294967296 + x) b
    generalize ((shortT b a 0).2 * 4294967296 + x) / b = q at *
    generalize ((shortT b a 0).2 * 4294967296 + x) % b = m at *
    generalize V (shortT b a 0).1 = v at *
    have e2 : (q + 4294967296 * v) * b = b * q + 4294967296 * (v * b) := by grind
    rw [e2]
    generalize v * b = u at *
    generalize b * q = t at *
    omega

/-! ### Shifts: p and q together are the weight of a limb -/
def shiftT (p q : Int) : List Int → Int → List Int
  | [], c => [c]
  | x :: a, c => ((x % q) * p + c) :: shiftT p q a (x / q)
theorem shiftT_len (p q : Int) : ∀ a c, (shiftT p q a c).length = a.length + 1
  | [], _ => rfl
  | x :: a, c => by simp [shiftT, shiftT_len p q a]
theorem shiftT_Wf {p q : Int} (hp : 0 < p) (hq : 0 < q) (h : p * q = 4294967296) : ∀ {a c}, Wf a → 0 ≤ c → c < p → Wf (shiftT p q a c)
  | [], c, ha, h0, h1 => by
    have : p * 1 ≤ p * q := Int.mul_le_mul_of_nonneg_left (by omega) (by omega)
    exact Wf.cons h0 (by omega) Wf.nil
  | x :: a, c, ha, h0, h1 => by
    have h2 := Int.emod_nonneg x (show q ≠ 0 by omega)
    have h3 := Int.emod_lt_of_pos x hq
    have h4 : 0 ≤ x / q := Int.ediv_nonneg ha.head.1 (by omega)
    have h5 : x / q < p := Int.ediv_lt_of_lt_mul hq (by rw [h]; exact ha.head.2)
    have h6 : 0 ≤ (x % q) * p := Int.mul_nonneg h2 (by omega)
    have h7 : (x % q + 1) * p ≤ q * p := Int.mul_le_mul_of_nonneg_right (by omega) (by omega)
    have h8 : (x % q + 1) * p = (x % q) * p + p := by grind
    have h9 : q * p = 4294967296 := by rw [Int.mul_comm]; exact h
    exact Wf.cons (by omega) (by omega) (shiftT_Wf hp hq h ha.tail h4 h5)
theorem shiftT_V {p q : Int} (h : p * q = 4294967296) : ∀ a c, V (shiftT p q a c) = V a * p + c
  | [], c => by simp [shiftT, V]
  | x :: a, c => by
    have ih := shiftT_V h a (x / q)
    have e := Int.mul_ediv_add_emod x q
    simp only [shiftT, V]
    rw [ih, ← h]
    generalize x / q = d at *
    generalize x % q = m at *
    subst e
    grind
def unshiftT (p q : Int) : List Int → List Int
  | [] => []
  | x :: a => (x / p + (a.headD 0 % p) * q) :: unshiftT p q a
theorem unshiftT_len (p q : Int) : ∀ a, (unshiftT p q a).length = a.length
  | [] => rfl
  | x :: a => by simp [unshiftT, unshiftT_len p q a]
theorem unshiftT_Wf {p q : Int} (hp : 0 < p) (hq : 0 < q) (h : p * q = 4294967296) : ∀ {a}, Wf a → Wf (unshiftT p q a)
  | [], ha => Wf.nil
  | x :: a, ha => by
    have h4 : 0 ≤ x / p := Int.ediv_nonneg ha.head.1 (by omega)
    have h5 : x / p < q := Int.ediv_lt_of_lt_mul hp (by rw [Int.mul_comm, h]; exact ha.head.2)
    have h2 := Int.emod_nonneg (a.headD 0) (show p ≠ 0 by omega)
    have h3 := Int.emod_lt_of_pos (a.headD 0) hp
    have h6 : 0 ≤ (a.headD 0 % p) * q := Int.mul_nonneg h2 (by omega)
    have h7 : (a.headD 0 % p + 1) * q ≤ p * q := Int.mul_le_mul_of_nonneg_right (by omega) (by omega)
    have h8 : (a.headD 0 % p + 1) * q = (a.headD 0 % p) * q + q := by grind
    exact Wf.cons (by omega) (by omega) (unshiftT_Wf hp hq h ha.tail)
theorem unshiftT_V {p q : Int} (hp : 0 < p) (h : p * q = 4294967296) : ∀ a, V (unshiftT p q a) * p + (a.headD 0) % p = V a
  | [] => by simp [unshiftT, V]
  | x :: a => by
    have ih := unshiftT_V hp h a
    have e := Int.mul_ediv_add_emod x p
    simp only [unshiftT, V, List.headD_cons]
    rw [← h]
    generalize x / p = d at *
    generalize x % p = m at *
    generalize (a.headD 0) % p = g at *
    subst e
    rw [← ih]
    grind
/-- A multiple of p that is shifted back. -/
theorem unshiftT_of {p q : Int} (hp : 0 < p) (hq : 0 < q) (h : p * q = 4294967296) {a : List Int} (ha : Wf a) {n : Int} (hv : V a = n * p) : V (unshiftT p q a) = n := by
  have e := unshiftT_V hp h a
  rw [hv] at e
  have h2 := Int.emod_nonneg (a.headD 0) (show p ≠ 0 by omega)
  have h3 := Int.emod_lt_of_pos (a.headD 0) hp
  generalize (a.headD 0) % p = g at *
  generalize V (unshiftT p q a) = v at *
  have e2 : g = (n - v) * p := by grind
  rcases Int.lt_trichotomy (n - v) 0 with h4 | h4 | h4
  · have : (n - v) * p ≤ (-1) * p := Int.mul_le_mul_of_nonneg_right (by omega) (by omega)
    omega
  · omega
  · have : 1 * p ≤ (n - v) * p := Int.mul_le_mul_of_nonneg_right (by omega) (by omega)
    omega

/-! ### b, so often, away from what stands at a place; and b once back -/
/-- Is one owed? -/
def owe (n : Int) : Int := if n < 0 then 1 else 0
theorem owe_is (n : Int) : n < 0 ∧ owe n = 1 ∨ 0 ≤ n ∧ owe n = 0 := by
  unfold owe
  split
  · exact .inl ⟨by assumption, rfl⟩
  · exact .inr ⟨by omega, rfl⟩
/-- The limbs that stand there, and whether that was too much (-1). -/
def tkT (q : Int) : List Int → List Int → Int → Int → List Int × Int
  | [], w, v, o => ([(w.headD 0 - v - o) % 4294967296], - owe (w.headD 0 - v - o))
  | y :: b, w, v, o => (((w.headD 0 - (v + q * y) % 4294967296 - o) % 4294967296) :: (tkT q b w.tail ((v + q * y) / 4294967296) (owe (w.headD 0 - (v + q * y) % 4294967296 - o))).1,
      (tkT q b w.tail ((v + q * y) / 4294967296) (owe (w.headD 0 - (v + q * y) % 4294967296 - o))).2)
theorem tkT_len (q : Int) : ∀ b w v o, (tkT q b w v o).1.length = b.length + 1
  | [], _, _, _ => rfl
  | y :: b, w, v, o => by simp [tkT, tkT_len q b]
theorem tkT_Wf (q : Int) : ∀ b w v o, Wf (tkT q b w v o).1
  | [], w, v, o => Wf.cons (by omega) (by omega) Wf.nil
  | y :: b, w, v, o => Wf.cons (by omega) (by omega) (tkT_Wf q b _ _ _)
theorem tkT_sign (q : Int) : ∀ b w v o, (tkT q b w v o).2 = 0 ∨ (tkT q b w v o).2 = -1
  | [], w, v, o => by
    simp only [tkT]
    have := owe_is (w.headD 0 - v - o)
    omega
  | y :: b, w, v, o => tkT_sign q b _ _ _
theorem tkT_bound {q y v : Int} (hq : 0 ≤ q ∧ q < 4294967296) (hy : 0 ≤ y ∧ y < 4294967296) (hv : 0 ≤ v ∧ v < 4294967296) : 0 ≤ v + q * y ∧ v + q * y < 18446744073709551616 ∧ 0 ≤ (v + q * y) / 4294967296 ∧ (v + q * y) / 4294967296 < 4294967296 := by
  have := mul_bound hq.1 (by omega) hy.1 (show y ≤ 4294967295 by omega)
  omega
theorem tkT_V {q : Int} (hq : 0 ≤ q ∧ q < 4294967296) : ∀ {b w : List Int} {v o : Int}, Wf b → Wf w → w.length = b.length + 1 → 0 ≤ v ∧ v < 4294967296 → 0 ≤ o ∧ o ≤ 1 →
    V (tkT q b w v o).1 + W (b.length + 1) * (tkT q b w v o).2 = V w - q * V b - v - o
  | [], w, v, o, hb, hw, hl, hv, ho => by
    obtain ⟨x, rfl⟩ : ∃ x, w = [x] := by
      rcases w with _ | ⟨x, _ | ⟨y, r⟩⟩
      · simp at hl
      · exact ⟨x, rfl⟩
      · simp at hl
    have := hw.head
    simp only [tkT, V, List.headD_cons, List.length_nil, W_succ, W_zero]
    have := owe_is (x - v - o)
    omega
  | y :: b, w, v, o, hb, hw, hl, hv, ho => by
    obtain ⟨x, w, rfl⟩ : ∃ x r, w = x :: r := by
      rcases w with _ | ⟨x, r⟩
      · simp at hl
      · exact ⟨x, r, rfl⟩
    have hx := hw.head
    have h1 := tkT_bound hq hb.head hv
    have ih := tkT_V hq (b := b) (w := w) (v := (v + q * y) / 4294967296) (o := owe (x - (v + q * y) % 4294967296 - o)) hb.tail hw.tail (by simpa using hl) ⟨h1.2.2.1, h1.2.2.2⟩ (by have := owe_is (x - (v + q * y) % 4294967296 - o); omega)
    simp only [tkT, V, List.headD_cons, List.tail_cons, List.length_cons]
    rw [W_succ (b.length + 1)]
    generalize (tkT q b w ((v + q * y) / 4294967296) (owe (x - (v + q * y) % 4294967296 - o))) = R at *
    have e1 : 4294967296 * W (b.length + 1) * R.2 = 4294967296 * (W (b.length + 1) * R.2) := by grind
    have e2 : q * (y + 4294967296 * V b) = q * y + 4294967296 * (q * V b) := by grind
    rw [e1, e2]
    clear e1 e2
    have := owe_is (x - (v + q * y) % 4294967296 - o)
    omega
def giveT : List Int → List Int → Int → List Int
  | [], w, v => [(w.headD 0 + v) % 4294967296]
  | y :: b, w, v => ((v + (w.headD 0 + y)) % 4294967296) :: giveT b w.tail ((v + (w.headD 0 + y)) / 4294967296)
theorem giveT_len : ∀ b w v, (giveT b w v).length = b.length + 1
  | [], _, _ => rfl
  | y :: b, w, v => by simp [giveT, giveT_len b]
theorem giveT_Wf : ∀ b w v, Wf (giveT b w v)
  | [], w, v => Wf.cons (by omega) (by omega) Wf.nil
  | y :: b, w, v => Wf.cons (by omega) (by omega) (giveT_Wf b _ _)
theorem giveT_V : ∀ {b w : List Int} {v : Int}, Wf b → Wf w → w.length = b.length + 1 → 0 ≤ v ∧ v ≤ 1 → ∃ c, (c = 0 ∨ c = 1) ∧ V (giveT b w v) + W (b.length + 1) * c = V w + V b + v
  | [], w, v, hb, hw, hl, hv => by
    obtain ⟨x, rfl⟩ : ∃ x, w = [x] := by
      rcases w with _ | ⟨x, _ | ⟨y, r⟩⟩
      · simp at hl
      · exact ⟨x, rfl⟩
      · simp at hl
    have := hw.head
    simp only [giveT, V, List.headD_cons, List.length_nil, W_succ, W_zero]
    rcases Int.lt_or_le (x + v) 4294967296 with h | h
    · exact ⟨0, .inl rfl, by omega⟩
    · exact ⟨1, .inr rfl, by omega⟩
  | y :: b, w, v, hb, hw, hl, hv => by
    obtain ⟨x, w, rfl⟩ : ∃ x r, w = x :: r := by
      rcases w with _ | ⟨x, r⟩
      · simp at hl
      · exact ⟨x, r, rfl⟩
    have hx := hw.head; have hy := hb.head
    obtain ⟨c, hc, ih⟩ := giveT_V (b := b) (w := w) (v := (v + (x + y)) / 4294967296) hb.tail hw.tail (by simpa using hl) (by omega)
    refine ⟨c, hc, ?_⟩
    simp only [giveT, V, List.headD_cons, List.tail_cons, List.length_cons]
    rw [W_succ (b.length + 1)]
    have e1 : 4294967296 * W (b.length + 1) * c = 4294967296 * (W (b.length + 1) * c) := by grind
    rw [e1]
    clear e1
    omega

/-! ### The guess -/
/-- N = n + P(x3 + B(x2 + B x1)), D = d + P(y2 + B y1). A guess that passes the test is at most once too great. -/
theorem guess_not_far {P n d x1 x2 x3 y1 y2 q r : Int} (hP : 0 < P) (hn : 0 ≤ n) (hd0 : 0 ≤ d) (hd : d < P) (hy1 : 1 ≤ y1) (hy2 : 0 ≤ y2) (hq0 : 0 ≤ q) (hq : q ≤ 4294967295) (hsum : q * y1 + r = x1 * 4294967296 + x2)
    (htest : q * y2 ≤ r * 4294967296 + x3) : (q - 1) * (d + P * (y2 + 4294967296 * y1)) ≤ n + P * (x3 + 4294967296 * (x2 + 4294967296 * x1)) := by
  rcases Int.lt_or_le q 1 with h | h
  · obtain rfl : q = 0 := by omega
    have h1 : 0 ≤ P * (y2 + 4294967296 * y1) := Int.mul_nonneg (by omega) (by omega)
    have h2 : 0 ≤ P * (x3 + 4294967296 * (x2 + 4294967296 * x1)) := Int.mul_nonneg (by omega) (by omega)
    omega
  · have h1 : (q - 1) * d ≤ (q - 1) * P := Int.mul_le_mul_of_nonneg_left (by omega) (by omega)
    have h2 : q * (y2 + 4294967296 * y1) ≤ x3 + 4294967296 * (x2 + 4294967296 * x1) := by
      have : q * (y2 + 4294967296 * y1) = q * y2 + 4294967296 * (q * y1) := by grind
      omega
    have h3 : P * (q * (y2 + 4294967296 * y1)) ≤ P * (x3 + 4294967296 * (x2 + 4294967296 * x1)) := Int.mul_le_mul_of_nonneg_left h2 (by omega)
    have h4 : P * (q - 1) ≤ P * (y2 + 4294967296 * y1) := Int.mul_le_mul_of_nonneg_left (by omega) (by omega)
    have e : (q - 1) * (d + P * (y2 + 4294967296 * y1)) = (q - 1) * d + P * (q * (y2 + 4294967296 * y1)) - P * (y2 + 4294967296 * y1) := by grind
    have e2 : (q - 1) * P = P * (q - 1) := Int.mul_comm _ _
    omega
/-- A guess that fails the test is too great. -/
theorem guess_too_great {P n d x1 x2 x3 y1 y2 q r : Int} (hP : 0 < P) (hn : n < P) (hd0 : 0 ≤ d) (hq0 : 0 ≤ q) (hsum : q * y1 + r = x1 * 4294967296 + x2)
    (htest : r * 4294967296 + x3 < q * y2) : n + P * (x3 + 4294967296 * (x2 + 4294967296 * x1)) < q * (d + P * (y2 + 4294967296 * y1)) := by
  have h2 : x3 + 4294967296 * (x2 + 4294967296 * x1) + 1 ≤ q * (y2 + 4294967296 * y1) := by
    have : q * (y2 + 4294967296 * y1) = q * y2 + 4294967296 * (q * y1) := by grind
    omega
  have h3 : P * (x3 + 4294967296 * (x2 + 4294967296 * x1) + 1) ≤ P * (q * (y2 + 4294967296 * y1)) := Int.mul_le_mul_of_nonneg_left h2 (by omega)
  have h4 : 0 ≤ q * d := Int.mul_nonneg hq0 hd0
  have e : q * (d + P * (y2 + 4294967296 * y1)) = q * d + P * (q * (y2 + 4294967296 * y1)) := by grind
  have e2 : P * (x3 + 4294967296 * (x2 + 4294967296 * x1) + 1) = P * (x3 + 4294967296 * (x2 + 4294967296 * x1)) + P := by grind
  omega
end Go.Proofs.YtamhiecepipnjaaDoor.Pl
