/- Plain law of keeps: sorted lists of items, one more put in its place, one taken out. No program in sight. -/
import Derived.Test.YthjiiifnlhbffaaDoorK1
namespace Go.Proofs.YthjiiifnlhbffaaDoor.Pl
set_option linter.unusedVariables false
set_option linter.unusedSimpArgs false

def Srt (l : List It) : Prop := l.Pairwise fun x y => cmpIt x y ≤ 0
def Dst (l : List It) : Prop := l.Pairwise fun x y => x.k ≠ y.k
def Pos (l : List It) : Prop := ∀ x ∈ l, 0 < x.w
/-- One more, at a place. -/
def ins {α : Type} (l : List α) (at_ : Nat) (x : α) : List α := l.take at_ ++ [x] ++ l.drop at_
theorem ins_length {α : Type} (l : List α) (at_ : Nat) (x : α) (h : at_ ≤ l.length) : (ins l at_ x).length = l.length + 1 := by
  unfold ins; rw [List.length_append, List.length_append, List.length_take, List.length_drop, List.length_singleton]; omega
theorem mem_ins {α : Type} {l : List α} {at_ : Nat} {x y : α} (h : y ∈ ins l at_ x) : y = x ∨ y ∈ l := by
  unfold ins at h
  simp only [List.mem_append, List.mem_singleton] at h
  rcases h with (h | h) | h
  · exact .inr (List.mem_of_mem_take h)
  · exact .inl h
  · exact .inr (List.mem_of_mem_drop h)
/-- A relation between all of a list holds with one more at a place. -/
theorem pw_ins {α : Type} {R : α → α → Prop} {l : List α} {at_ : Nat} {x : α} (h : l.Pairwise R) (lo : ∀ y ∈ l.take at_, R y x) (hi : ∀ y ∈ l.drop at_, R x y) : (ins l at_ x).Pairwise R := by
  unfold ins
  have hs := h
  rw [← List.take_append_drop at_ l, List.pairwise_append] at hs
  obtain ⟨h1, h2, h3⟩ := hs
  rw [List.pairwise_append, List.pairwise_append]
  refine ⟨⟨h1, List.pairwise_singleton _ _, fun a ha b hb => ?_⟩, h2, fun a ha b hb => ?_⟩
  · rw [List.mem_singleton.1 hb]; exact lo a ha
  · rcases List.mem_append.1 ha with ha | ha
    · exact h3 a ha b hb
    · rw [List.mem_singleton.1 ha]; exact hi b hb
theorem pos_ins {l : List It} {at_ : Nat} {x : It} (h : Pos l) (hx : 0 < x.w) : Pos (ins l at_ x) := fun y hy => by
  rcases mem_ins hy with rfl | hy
  · exact hx
  · exact h y hy
/-- The place where one more belongs. -/
structure PlaceOf (l : List It) (x : It) (p : Nat) : Prop where
  le : p ≤ l.length
  lo : ∀ j (h : j < l.length), j < p → cmpIt l[j] x < 0
  hi : ∀ j (h : j < l.length), p ≤ j → 0 ≤ cmpIt l[j] x
theorem PlaceOf.srt {l : List It} {x : It} {p : Nat} (h : PlaceOf l x p) (hs : Srt l) : Srt (ins l p x) := by
  refine pw_ins hs (fun y hy => ?_) (fun y hy => ?_)
  · obtain ⟨j, hj, rfl⟩ := List.getElem_of_mem hy
    rw [List.length_take] at hj
    rw [List.getElem_take]
    exact Int.le_of_lt (h.lo j (by omega) (by omega))
  · obtain ⟨j, hj, rfl⟩ := List.getElem_of_mem hy
    rw [List.length_drop] at hj
    rw [List.getElem_drop, cmp_anti]
    have := h.hi (p + j) (by omega) (by omega)
    omega
theorem srt_get {l : List It} (hs : Srt l) {i j : Nat} (hj : j < l.length) (hij : i < j) : cmpIt (l[i]'(by omega)) l[j] ≤ 0 := (List.pairwise_iff_getElem.1 hs) i j (by omega) hj hij
/-- Of neighbours that stand in order all do. -/
theorem srt_of {l : List It} (hp : Pos l) (h : ∀ i (hi : i + 1 < l.length), cmpIt (l[i]'(by omega)) l[i + 1] ≤ 0) : Srt l := by
  have key : ∀ d i (hd : i + d + 1 < l.length), cmpIt (l[i]'(by omega)) l[i + d + 1] ≤ 0 := by
    intro d
    induction d with
    | zero => intro i hd; exact h i hd
    | succ d ih =>
      intro i hd
      exact cmp_trans (hp _ (List.getElem_mem _)) (hp _ (List.getElem_mem (show i + d + 1 < l.length by omega))) (hp _ (List.getElem_mem _)) (ih i (by omega)) (h (i + d + 1) hd)
  refine List.pairwise_iff_getElem.2 fun i j hi hj hij => ?_
  obtain ⟨d, rfl⟩ : ∃ d, j = i + d + 1 := ⟨j - i - 1, by omega⟩
  exact key d i hj
/-- None stands behind the last one. -/
theorem rk_last {l : List It} (hs : Srt l) {n : Nat} (hn : l.length = n + 1) {y : It} (hy : y ∈ l) : rkLe y (l[n]'(by omega)) := by
  obtain ⟨j, hj, rfl⟩ := List.getElem_of_mem hy
  rcases Nat.lt_or_ge j n with h | h
  · exact cmp_rk (srt_get hs (by omega) h)
  · obtain rfl : j = n := by omega
    exact rkLe.refl _
theorem ins_get_hi {α : Type} {l : List α} {p : Nat} {x : α} {j : Nat} (hp : p ≤ j) (hj : j < l.length) : (ins l p x)[j + 1]? = some l[j] := by
  unfold ins
  rw [List.getElem?_append_right (by rw [List.length_append, List.length_take, List.length_singleton]; omega), List.length_append, List.length_take, List.length_singleton, Nat.min_eq_left (by omega), List.getElem?_drop, show p + (j + 1 - (p + 1)) = j from by omega, List.getElem?_eq_getElem hj]
theorem ins_get_lo {α : Type} {l : List α} {p : Nat} {x : α} {j : Nat} (hp : j < p) (hj : j < l.length) : (ins l p x)[j]? = some l[j] := by
  unfold ins
  rw [List.append_assoc, List.getElem?_append_left (by rw [List.length_take]; omega), List.getElem?_take_of_lt hp, List.getElem?_eq_getElem hj]
/-- One more comes to K and 1: who is the last of the first K and 1 then stands behind none that was the last. -/
theorem rk_more {l : List It} {x : It} {p n : Nat} (hs : Srt l) (hn : l.length = n + 1) (hpl : PlaceOf l x p) {y : It} (hy : (ins l p x)[n]? = some y) : rkLe y (l[n]'(by omega)) := by
  rcases Nat.lt_or_ge n p with h | h
  · rw [ins_get_lo h (by omega)] at hy
    obtain rfl := Option.some.inj hy
    exact rkLe.refl _
  · have h1 := ins_get_hi (x := x) h (show n < l.length by omega)
    have hs2 := hpl.srt hs
    obtain ⟨l1, e1⟩ := List.getElem?_eq_some_iff.1 hy
    obtain ⟨l2, e2⟩ := List.getElem?_eq_some_iff.1 h1
    have := cmp_rk (srt_get hs2 l2 (Nat.lt_succ_self n))
    rw [e1, e2] at this
    exact this
/-- One is taken for one that stands ahead of it. -/
theorem rk_swap {l : List It} {x : It} {p n i : Nat} (hs : Srt l) (hp : Pos l) (hx : 0 < x.w) (hn : l.length = n + 1) (hi : i < l.length) (hlt : cmpIt x l[i] < 0) {y : It} (hy : (ins (l.eraseIdx i) p x)[n]? = some y) : rkLe y (l[n]'(by omega)) := by
  have hm := List.mem_of_getElem? hy
  rcases mem_ins hm with rfl | hm
  · exact (cmp_rk (Int.le_of_lt hlt)).trans hx (hp _ (List.getElem_mem _)) (hp _ (List.getElem_mem _)) (rk_last hs hn (List.getElem_mem _))
  · exact rk_last hs hn (List.mem_of_mem_eraseIdx hm)
end Go.Proofs.YthjiiifnlhbffaaDoor.Pl
