/- Plain arithmetic of limbs: what lists of limbs are worth, and the school methods on them. No program in sight. -/
namespace Go.Proofs.YtamhiecepipnjaaDoor.Pl
set_option linter.unusedVariables false

/-- What limbs are worth, the lowest first. -/
def V : List Int → Int
  | [] => 0
  | x :: r => x + 4294967296 * V r
/-- Each is a limb. -/
def Wf (l : List Int) : Prop := ∀ x ∈ l, 0 ≤ x ∧ x < 4294967296
/-- No 0 at the end. -/
def Nrm (l : List Int) : Prop := ∀ x ∈ l.getLast?, x ≠ 0

theorem Wf.nil : Wf [] := fun _ h => by cases h
theorem Wf.cons {x : Int} {l : List Int} (h0 : 0 ≤ x) (h1 : x < 4294967296) (h : Wf l) : Wf (x :: l) := by
  intro y hy
  rcases List.mem_cons.1 hy with rfl | hy
  · exact ⟨h0, h1⟩
  · exact h y hy
theorem Wf.head {x : Int} {l : List Int} (h : Wf (x :: l)) : 0 ≤ x ∧ x < 4294967296 := h x (List.mem_cons_self ..)
theorem Wf.tail {x : Int} {l : List Int} (h : Wf (x :: l)) : Wf l := fun y hy => h y (List.mem_cons_of_mem _ hy)
theorem Wf.append {a b : List Int} (ha : Wf a) (hb : Wf b) : Wf (a ++ b) := fun y hy => (List.mem_append.1 hy).elim (ha y) (hb y)
theorem Wf.left {a b : List Int} (h : Wf (a ++ b)) : Wf a := fun y hy => h y (List.mem_append_left _ hy)
theorem Wf.right {a b : List Int} (h : Wf (a ++ b)) : Wf b := fun y hy => h y (List.mem_append_right _ hy)
theorem Wf.take {a : List Int} (h : Wf a) (n : Nat) : Wf (a.take n) := fun y hy => h y (List.mem_of_mem_take hy)
theorem Wf.drop {a : List Int} (h : Wf a) (n : Nat) : Wf (a.drop n) := fun y hy => h y (List.mem_of_mem_drop hy)
theorem Wf.replicate (n : Nat) : Wf (List.replicate n 0) := fun y hy => by
  rw [List.eq_of_mem_replicate hy]; omega
theorem Wf.headD {l : List Int} (h : Wf l) : 0 ≤ l.headD 0 ∧ l.headD 0 < 4294967296 := by
  cases l with
  | nil => exact ⟨Int.le_refl _, by decide⟩
  | cons x r => exact h.head
theorem Wf.tl {l : List Int} (h : Wf l) : Wf l.tail := by
  cases l with
  | nil => exact h
  | cons x r => exact h.tail
theorem Wf.getD {l : List Int} (h : Wf l) (i : Nat) : 0 ≤ l.getD i 0 ∧ l.getD i 0 < 4294967296 := by
  rw [List.getD_eq_getElem?_getD]
  rcases hx : l[i]? with _ | x
  · exact ⟨Int.le_refl _, by decide⟩
  · exact h x (List.mem_of_getElem? hx)

theorem V_nonneg : ∀ {l : List Int}, Wf l → 0 ≤ V l
  | [], _ => Int.le_refl _
  | x :: r, h => by have := V_nonneg h.tail; have := h.head; simp only [V]; omega
theorem V_tl (l : List Int) : V l = l.headD 0 + 4294967296 * V l.tail := by
  cases l <;> simp [V]
theorem V_append : ∀ a b c : List Int, V b = V c → V (a ++ b) = V (a ++ c)
  | [], _, _, h => h
  | x :: a, b, c, h => by simp only [List.cons_append, V]; rw [V_append a b c h]
theorem V_zeros (n : Nat) : V (List.replicate n 0) = 0 := by
  induction n with
  | zero => rfl
  | succ n ih => rw [List.replicate_succ]; simp only [V]; omega
theorem V_append_zeros (a : List Int) (n : Nat) : V (a ++ List.replicate n 0) = V a := by
  have := V_append a (List.replicate n 0) [] (V_zeros n)
  rwa [List.append_nil] at this
/-- The weight of the place behind so many limbs. -/
def W (n : Nat) : Int := 4294967296 ^ n
theorem W_zero : W 0 = 1 := rfl
theorem W_succ (n : Nat) : W (n + 1) = 4294967296 * W n := by unfold W; rw [Int.pow_succ, Int.mul_comm]
theorem W_pos (n : Nat) : 0 < W n := by
  induction n with
  | zero => decide
  | succ n ih => rw [W_succ]; omega
theorem V_app (a b : List Int) : V (a ++ b) = V a + W a.length * V b := by
  induction a with
  | nil => simp [V, W_zero]
  | cons x a ih => simp only [List.cons_append, V, List.length_cons, W_succ, ih]; grind
theorem V_lt {l : List Int} (h : Wf l) : V l < W l.length := by
  induction l with
  | nil => decide
  | cons x r ih => have := ih h.tail; have := h.head; simp only [V, List.length_cons, W_succ]; omega
/-- A natural has one list of limbs without 0 at the end. -/
theorem V_inj : ∀ {a b : List Int}, Wf a → Wf b → a.length = b.length → V a = V b → a = b
  | [], [], _, _, _, _ => rfl
  | x :: a, y :: b, ha, hb, hl, hv => by
    simp only [V] at hv
    have h1 := ha.head; have h2 := hb.head
    obtain rfl : x = y := by omega
    rw [V_inj ha.tail hb.tail (by simpa using hl) (by omega)]
theorem Nrm.nil : Nrm [] := fun _ h => by simp at h
theorem Nrm.tail {x : Int} {l : List Int} (h : Nrm (x :: l)) : Nrm l := by
  intro y hy
  cases l with
  | nil => simp at hy
  | cons z r => exact h y (by simpa [List.getLast?_cons_cons] using hy)
theorem Nrm.pos {l : List Int} (hw : Wf l) (h : Nrm l) (hl : l ≠ []) : 0 < V l := by
  induction l with
  | nil => exact absurd rfl hl
  | cons x r ih =>
    have h1 := hw.head
    rcases r with _ | ⟨y, r⟩
    · have : x ≠ 0 := h x (by simp)
      simp only [V]; omega
    · have := ih hw.tail h.tail (by simp)
      have e : V (x :: y :: r) = x + 4294967296 * V (y :: r) := rfl
      omega
/-- One of n limbs, the last one not 0, is at least the weight of its last place. -/
theorem Nrm.ge {l : List Int} (hw : Wf l) (h : Nrm l) (n : Nat) (hl : l.length = n + 1) : W n ≤ V l := by
  induction n generalizing l with
  | zero =>
    have := h.pos hw (by intro e; simp [e] at hl)
    rw [W_zero]; omega
  | succ n ih =>
    rcases l with _ | ⟨x, r⟩
    · simp at hl
    · have := ih hw.tail h.tail (by simpa using hl)
      have := hw.head
      simp only [V, W_succ]; omega
theorem W_mono {m n : Nat} (h : m ≤ n) : W m ≤ W n := by
  induction n with
  | zero => obtain rfl : m = 0 := by omega
            exact Int.le_refl _
  | succ n ih =>
    rcases Nat.lt_or_ge n m with h1 | h1
    · obtain rfl : m = n + 1 := by omega
      exact Int.le_refl _
    · have := ih h1; have := W_pos n; rw [W_succ]; omega
theorem V_inj_nrm {a b : List Int} (ha : Wf a) (hb : Wf b) (na : Nrm a) (nb : Nrm b) (hv : V a = V b) : a = b := by
  refine V_inj ha hb ?_ hv
  rcases Nat.lt_trichotomy a.length b.length with h | h | h
  · obtain ⟨n, hn⟩ : ∃ n, b.length = n + 1 := ⟨b.length - 1, by omega⟩
    have := nb.ge hb n hn
    have := V_lt ha
    have := W_mono (show a.length ≤ n by omega)
    omega
  · exact h
  · obtain ⟨n, hn⟩ : ∃ n, a.length = n + 1 := ⟨a.length - 1, by omega⟩
    have := na.ge ha n hn
    have := V_lt hb
    have := W_mono (show b.length ≤ n by omega)
    omega
theorem len_lt_of_V_lt {a b : List Int} (ha : Wf a) (hb : Wf b) (na : Nrm a) (hv : V a ≤ V b) : a.length ≤ b.length := by
  rcases Nat.lt_or_ge b.length a.length with h | h
  · obtain ⟨n, hn⟩ : ∃ n, a.length = n + 1 := ⟨a.length - 1, by omega⟩
    have := na.ge ha n hn
    have := V_lt hb
    have := W_mono (show b.length ≤ n by omega)
    omega
  · exact h

/-! ### Without the limbs 0 at the end -/
def trimL : List Int → List Int
  | [] => []
  | x :: r => match trimL r with
    | [] => if x = 0 then [] else [x]
    | y :: s => x :: y :: s
theorem trimL_V : ∀ l, V (trimL l) = V l
  | [] => rfl
  | x :: r => by
    have ih := trimL_V r
    simp only [trimL]
    split
    · rename_i h; rw [h] at ih
      simp only [V] at ih
      split
      · simp only [V]; omega
      · simp only [V]; omega
    · rename_i h; rw [h] at ih
      simp only [V] at ih ⊢; omega
theorem trimL_Wf : ∀ {l}, Wf l → Wf (trimL l)
  | [], h => h
  | x :: r, h => by
    have ih := trimL_Wf h.tail
    simp only [trimL]
    split
    · split
      · exact Wf.nil
      · exact Wf.cons h.head.1 h.head.2 Wf.nil
    · rename_i e; rw [e] at ih; exact Wf.cons h.head.1 h.head.2 ih
theorem trimL_Nrm : ∀ l, Nrm (trimL l)
  | [] => Nrm.nil
  | x :: r => by
    have ih := trimL_Nrm r
    simp only [trimL]
    split
    · split
      · exact Nrm.nil
      · intro y hy; simp at hy; omega
    · rename_i e; rw [e] at ih
      intro y hy; exact ih y (by simpa [List.getLast?_cons_cons] using hy)
theorem trimL_len : ∀ l, (trimL l).length ≤ l.length
  | [] => Nat.le_refl _
  | x :: r => by
    have ih := trimL_len r
    simp only [trimL]
    split
    · split <;> simp
    · rename_i e; rw [e] at ih; simp at ih ⊢; omega
theorem trimL_snoc_zero : ∀ l, trimL (l ++ [0]) = trimL l
  | [] => rfl
  | x :: r => by simp only [List.cons_append, trimL]; rw [trimL_snoc_zero r]
theorem trimL_self : ∀ {l}, Nrm l → trimL l = l
  | [], _ => rfl
  | x :: r, h => by
    have ih := trimL_self h.tail
    simp only [trimL]
    rw [ih]
    cases r with
    | nil => have := h x (by simp); simp [this]
    | cons y s => rfl

/-! ### The sum -/
def sumT : Nat → List Int → List Int → Int → List Int
  | 0, _, _, _ => []
  | n + 1, a, b, c => ((c + (a.headD 0 + b.headD 0)) % 4294967296) :: sumT n a.tail b.tail ((c + (a.headD 0 + b.headD 0)) / 4294967296)
theorem sumT_len : ∀ n a b c, (sumT n a b c).length = n
  | 0, _, _, _ => rfl
  | n + 1, a, b, c => by simp [sumT, sumT_len n]
theorem sumT_Wf : ∀ n a b c, Wf (sumT n a b c)
  | 0, _, _, _ => Wf.nil
  | n + 1, a, b, c => Wf.cons (by omega) (by omega) (sumT_Wf n _ _ _)
theorem sumT_V : ∀ (n : Nat) {a b : List Int} {c : Int}, Wf a → Wf b → 0 ≤ c → c ≤ 1 → a.length ≤ n → b.length ≤ n → V (sumT (n + 1) a b c) = V a + V b + c
  | 0, a, b, c, ha, hb, h0, h1, la, lb => by
    obtain rfl := List.eq_nil_of_length_eq_zero (by omega : a.length = 0)
    obtain rfl := List.eq_nil_of_length_eq_zero (by omega : b.length = 0)
    simp [sumT, V]; omega
  | n + 1, a, b, c, ha, hb, h0, h1, la, lb => by
    have h2 := ha.headD; have h3 := hb.headD
    have ih := sumT_V n ha.tl hb.tl (c := (c + (a.headD 0 + b.headD 0)) / 4294967296) (by omega) (by omega) (by simp; omega) (by simp; omega)
    rw [sumT]
    simp only [V]
    rw [ih, V_tl a, V_tl b]
    omega

/-! ### The difference -/
def lessT : List Int → List Int → Int → List Int
  | [], _, _ => []
  | x :: a, b, o => ((x - b.headD 0 - o) % 4294967296) :: lessT a b.tail (if x - b.headD 0 - o < 0 then 1 else 0)
theorem lessT_len : ∀ a b o, (lessT a b o).length = a.length
  | [], _, _ => rfl
  | x :: a, b, o => by simp [lessT, lessT_len a]
theorem lessT_Wf : ∀ a b o, Wf (lessT a b o)
  | [], _, _ => Wf.nil
  | x :: a, b, o => Wf.cons (by omega) (by omega) (lessT_Wf a _ _)
theorem lessT_V : ∀ {a b : List Int} {o : Int}, Wf a → Wf b → 0 ≤ o → o ≤ 1 → V b + o ≤ V a → V (lessT a b o) = V a - V b - o
  | [], b, o, ha, hb, h0, h1, hv => by
    have := V_nonneg hb; simp only [V, lessT] at hv ⊢; omega
  | x :: a, b, o, ha, hb, h0, h1, hv => by
    have h2 := ha.head; have h3 := hb.headD
    rw [V_tl b] at hv ⊢
    simp only [V, lessT] at hv ⊢
    by_cases h : x - b.headD 0 - o < 0
    · rw [if_pos h, lessT_V ha.tail hb.tl (by omega) (by omega) (by omega)]; omega
    · rw [if_neg h, lessT_V ha.tail hb.tl (by omega) (by omega) (by omega)]; omega

/-! ### The product -/
/-- One limb by all others, onto what is there. -/
def rowT (x : Int) : List Int → List Int → Int → List Int
  | [], o, c => c :: o.tail
  | y :: b, o, c => ((c + (x * y + o.headD 0)) % 4294967296) :: rowT x b o.tail ((c + (x * y + o.headD 0)) / 4294967296)
def mulT : List Int → List Int → List Int → List Int
  | [], _, o => o
  | x :: a, b, o => (rowT x b o 0).headD 0 :: mulT a b (rowT x b o 0).tail
theorem mul_bound {x y : Int} (h0 : 0 ≤ x) (h1 : x ≤ 4294967295) (h2 : 0 ≤ y) (h3 : y ≤ 4294967295) : 0 ≤ x * y ∧ x * y ≤ 18446744065119617025 :=
  ⟨Int.mul_nonneg h0 h2, Int.le_trans (Int.mul_le_mul h1 h3 h2 (by decide)) (by decide)⟩
theorem rowT_len : ∀ x b o c, b.length < o.length → (rowT x b o c).length = o.length
  | x, [], o, c, h => by simp [rowT] at h ⊢; omega
  | x, y :: b, o, c, h => by
    simp only [rowT, List.length_cons] at h ⊢
    rw [rowT_len x b o.tail _ (by simp; omega)]; simp; omega
theorem rowT_bound {x c : Int} {y : Int} {o : Int} (hx : 0 ≤ x ∧ x < 4294967296) (hy : 0 ≤ y ∧ y < 4294967296) (ho : 0 ≤ o ∧ o < 4294967296) (hc : 0 ≤ c ∧ c < 4294967296) :
    0 ≤ c + (x * y + o) ∧ c + (x * y + o) < 18446744073709551616 ∧ 0 ≤ (c + (x * y + o)) / 4294967296 ∧ (c + (x * y + o)) / 4294967296 < 4294967296 := by
  have := mul_bound hx.1 (by omega) hy.1 (show y ≤ 4294967295 by omega)
  omega
theorem rowT_Wf : ∀ {x : Int} {b o : List Int} {c : Int}, 0 ≤ x ∧ x < 4294967296 → Wf b → Wf o → 0 ≤ c ∧ c < 4294967296 → Wf (rowT x b o c)
  | x, [], o, c, hx, hb, ho, hc => Wf.cons hc.1 hc.2 ho.tl
  | x, y :: b, o, c, hx, hb, ho, hc => by
    have := rowT_bound hx hb.head ho.headD hc
    exact Wf.cons (by omega) (by omega) (rowT_Wf hx hb.tail ho.tl ⟨this.2.2.1, this.2.2.2⟩)
theorem rowT_V : ∀ {x : Int} {b o : List Int} {c : Int}, o.getD b.length 0 = 0 → V (rowT x b o c) = V o + x * V b + c
  | x, [], o, c, h => by
    simp only [rowT, V]
    rw [V_tl o]
    have : o.headD 0 = 0 := by
      cases o with
      | nil => rfl
      | cons z r => exact h
    rw [this, Int.mul_zero]; omega
  | x, y :: b, o, c, h => by
    have ih := rowT_V (x := x) (b := b) (o := o.tail) (c := (c + (x * y + o.headD 0)) / 4294967296) (by
      cases o with
      | nil => rfl
      | cons z r => exact h)
    simp only [rowT, V]
    rw [ih, V_tl o]
    have e : x * (y + 4294967296 * V b) = x * y + 4294967296 * (x * V b) := by grind
    rw [e]
    generalize x * V b = t, x * y = u
    omega
theorem rowT_zero : ∀ (x : Int) (b o : List Int) (c : Int) (j : Nat), b.length < j → (rowT x b o c).getD j 0 = o.getD j 0
  | x, [], o, c, j, h => by
    obtain ⟨j, rfl⟩ : ∃ i, j = i + 1 := ⟨j - 1, by simp at h; omega⟩
    cases o <;> simp [rowT]
  | x, y :: b, o, c, j, h => by
    obtain ⟨j, rfl⟩ : ∃ i, j = i + 1 := ⟨j - 1, by simp at h; omega⟩
    have := rowT_zero x b o.tail ((c + (x * y + o.headD 0)) / 4294967296) j (by simpa using h)
    rw [rowT]
    simp only [List.getD_cons_succ]
    rw [this]
    cases o <;> simp
theorem mulT_len : ∀ a b o, a.length + b.length ≤ o.length → (mulT a b o).length = o.length
  | [], b, o, h => rfl
  | x :: a, b, o, h => by
    simp only [List.length_cons] at h
    have := rowT_len x b o 0 (by omega)
    simp only [mulT, List.length_cons]
    rw [mulT_len a b _ (by simp; omega)]; simp; omega
theorem mulT_Wf : ∀ {a b o : List Int}, Wf a → Wf b → Wf o → Wf (mulT a b o)
  | [], b, o, ha, hb, ho => ho
  | x :: a, b, o, ha, hb, ho => by
    have := rowT_Wf ha.head hb ho (c := 0) (by omega)
    exact Wf.cons this.headD.1 this.headD.2 (mulT_Wf ha.tail hb this.tl)
theorem mulT_V : ∀ {a b o : List Int}, (∀ j, b.length ≤ j → o.getD j 0 = 0) → V (mulT a b o) = V o + V a * V b
  | [], b, o, h => by simp [mulT, V]
  | x :: a, b, o, h => by
    have h1 := rowT_V (x := x) (b := b) (o := o) (c := 0) (h _ (Nat.le_refl _))
    have ih := mulT_V (a := a) (b := b) (o := (rowT x b o 0).tail) (fun j hj => by
      have := rowT_zero x b o 0 (j + 1) (by omega)
      rw [h _ (by omega)] at this
      generalize rowT x b o 0 = r at *
      cases r with
      | nil => rfl
      | cons z s => exact this)
    simp only [mulT, V]
    rw [ih]
    rw [V_tl (rowT x b o 0)] at h1
    have e : (x + 4294967296 * V a) * V b = x * V b + 4294967296 * (V a * V b) := by grind
    rw [e]
    generalize x * V b = t at *
    generalize V a * V b = u at *
    omega
end Go.Proofs.YtamhiecepipnjaaDoor.Pl
