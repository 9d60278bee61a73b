/- Rows of cells as whole blocks: what copy, append and clear make of a block; a row of a flat kind out of its block. No program in sight. -/
import Derived.Test.YthjiiifnlhbffaaDoorWMore
import Derived.Laws.CopyRow
import Derived.Lib.JoinLaws
import Derived.Lib.AppendZeros
import Derived.Lib.SliceRun
import Derived.Lib.Overlaps
import Derived.Shelf.Spec.SlicesInsert
import Derived.Deep.RegionLaw
namespace Go.Proofs.YthjiiifnlhbffaaDoor.KR
open Go Go.RowKit Go.Proofs.YthjiiifnlhbffaaDoorW.PrintWords
set_option linter.unusedVariables false
set_option linter.unusedSimpArgs false

/-! ### Cells that are set, as a block -/
theorem setCells_ne (g : Nat) : ∀ (vs : List Value) (o : Nat) (w : World) (k : Nat), k ≠ g → (w.setCells g o vs).heap[k]? = w.heap[k]?
  | [], _, _, _, _ => rfl
  | v :: r, o, w, k, h => by rw [World.setCells, setCells_ne g r (o + 1) _ k h]; exact Below.heap_setCell w ⟨g, o, none⟩ v k h
theorem setCells_size (g : Nat) : ∀ (vs : List Value) (o : Nat) (w : World), (w.setCells g o vs).heap.size = w.heap.size
  | [], _, _ => rfl
  | v :: r, o, w => by rw [World.setCells, setCells_size g r]; simp [World.setCell]
theorem setCells_rest (g : Nat) : ∀ (vs : List Value) (o : Nat) (w : World), (w.setCells g o vs).os = w.os ∧ (w.setCells g o vs).tape = w.tape ∧ (w.setCells g o vs).output = w.output
  | [], _, _ => ⟨rfl, rfl, rfl⟩
  | v :: r, o, w => by rw [World.setCells]; obtain ⟨h1, h2, h3⟩ := setCells_rest g r (o + 1) (w.setCell ⟨g, o, none⟩ v); exact ⟨h1, h2, h3⟩
theorem setCells_below {B g : Nat} {w0 w : World} (h : Below B w0 w) (hg : B ≤ g) (o : Nat) (vs : List Value) : Below B w0 (w.setCells g o vs) := by
  obtain ⟨h1, h2, h3⟩ := setCells_rest g vs o w
  exact ⟨h1.trans h.os, h2.trans h.tape, h3.trans h.output, by rw [setCells_size]; exact h.size, fun k hk => (setCells_ne g vs o w k (by omega)).trans (h.block k hk)⟩
theorem setCells_kept {g : Nat} {S : Nat → Prop} {w0 w : World} (h : Kept w0 w S) (hg : S g ∨ w0.heap.size ≤ g) (o : Nat) (vs : List Value) : Kept w0 (w.setCells g o vs) S :=
  h.then_ (S2 := fun k => k = g) ⟨by rw [setCells_size]; exact Nat.le_refl _, fun i _ hn => setCells_ne g vs o w i hn⟩ (fun k hk => by rw [hk]; exact hg)
theorem setCells_at (g : Nat) (t : TypeId) : ∀ (vs : List Value) (o : Nat) (w : World) (cur : Array Value), w.heap[g]? = some (.cells cur t (0, 0)) → o + vs.length ≤ cur.size →
    (w.setCells g o vs).heap[g]? = some (.cells (cur.toList.take o ++ vs ++ cur.toList.drop (o + vs.length)).toArray t (0, 0))
  | [], o, w, cur, h, _ => by simpa [World.setCells] using h
  | v :: r, o, w, cur, h, hl => by
    simp only [List.length_cons] at hl
    have h1 : (w.setCell ⟨g, o, none⟩ v).heap[g]? = some (.cells (cur.setIfInBounds o v) t (0, 0)) := blk_set h o v
    rw [World.setCells, setCells_at g t r (o + 1) _ (cur.setIfInBounds o v) h1 (by simp; omega)]
    have e := list_seg_step cur.toList o v r (by simp; omega)
    simp only [Array.toList_setIfInBounds, List.length_cons, Option.some.injEq, Obj.cells.injEq, and_true]
    rw [show o + (r.length + 1) = o + 1 + r.length from by omega] at *
    congr 1
/-! ### copy, clear -/
section
variable {P : Program}
/-- copy, elements of k cells: all is read before anything is written. -/
theorem run_copy_k (w : World) (dT sT ty elem : TypeId) (k b o dLen dCap : Nat) (a : Addr) (sLen sCap : Nat) (cs : List Value)
    (hu : P.underlying dT = some (.slice elem)) (hs : (P.info? elem).map (·.size) = some k) (hn : cs.length = Nat.min sLen dLen * k)
    (hsrc : ∀ j v, cs[j]? = some v → w.cell? (a.add j) = some v) (hc : ∀ j, j < cs.length → (w.cell? ⟨b, o + j, none⟩).isSome = true) (hf : ∀ j, j < cs.length → w.frozen? ⟨b, o + j, none⟩ = false) (h1 : ∀ v ∈ cs, v.oneCell' = true) :
    (Builtin.copy_ #[dT, sT] ty #[.slice (some ⟨b, o, none⟩) dLen dCap, .slice (some a) sLen sCap]).run P w = .ok (goInt (Nat.min sLen dLen)) (w.setCells b o cs) := by
  have hl := run_loadCells_list (P := P) w a cs hsrc
  have hst := run_storeCells_cells (P := P) b o cs 0 w (by simpa using hc) (by simpa using hf) h1
  cases hq : P.info? elem with
  | none => simp [hq] at hs
  | some i =>
    have hi : i.size = k := by simpa [hq] using hs
    simp only [Nat.add_zero] at hst
    simp [Builtin.copy_, run_underlying hu, Builtin.lenOf, Builtin.firstCells, sizeOf, typeInfo, hq, hi, ← hn, hl, hst]
/-- clear of one element of several cells. -/
theorem run_clear_one (w : World) (t e ty : TypeId) (z : Value) (ht : P.underlying t = some (.slice e)) (hv : ∀ w, (zeroValue e).run P w = .ok z w) (b o c : Nat)
    (hc : ∀ j, j < z.cells.size → (w.cell? ⟨b, o + j, none⟩).isSome = true) (hf : ∀ j, j < z.cells.size → w.frozen? ⟨b, o + j, none⟩ = false) (h1 : ∀ v ∈ z.cells.toList, v.oneCell' = true) :
    (Builtin.clear_ #[t] ty #[.slice (some ⟨b, o, none⟩) 1 c]).run P w = .ok (.tuple #[]) (w.setCells b o z.cells.toList) := by
  have hzc : (Builtin.zeroCells z.cells 1).toList = z.cells.toList := by
    unfold Builtin.zeroCells
    rw [Nat.one_mul]
    apply List.ext_getElem
    · simp
    · intro i h1 h2
      simp at h2
      simp [Nat.mod_eq_of_lt h2, getElem!_pos, h2]
  have hst := run_storeCells_cells (P := P) b o z.cells.toList 0 w (by simpa using hc) (by simpa using hf) h1
  simp only [Nat.add_zero] at hst
  simp [Builtin.clear_, run_underlying ht, hv, hzc, hst]
end
/-! ### Lists of elements and their cells -/
section
variable {α : Type} {R : α → List Value → Prop} {s : Nat} {ps qs : List α} {cs ds : List Value}
theorem reps_take (h : Reps R s ps cs) (i : Nat) : Reps R s (ps.take i) (cs.take (i * s)) := by
  refine ⟨?_, fun j p hj => ?_⟩
  · rw [List.length_take, List.length_take, h.1]
    rcases Nat.le_total i ps.length with h1 | h1
    · rw [Nat.min_eq_left h1, Nat.min_eq_left (Nat.mul_le_mul_right _ h1)]
    · rw [Nat.min_eq_right h1, Nat.min_eq_right (Nat.mul_le_mul_right _ h1)]
  have hji : j < i := by
    have := (List.getElem?_eq_some_iff.1 hj).1
    rw [List.length_take] at this; omega
  rw [List.getElem?_take_of_lt hji] at hj
  have h2 := h.2 j p hj
  have h3 : (j + 1) * s ≤ i * s := Nat.mul_le_mul_right _ hji
  rw [Nat.add_mul, Nat.one_mul] at h3
  rw [List.drop_take, List.take_take, Nat.min_eq_left (by omega)]
  exact h2
theorem reps_drop (h : Reps R s ps cs) (i : Nat) : Reps R s (ps.drop i) (cs.drop (i * s)) := by
  refine ⟨by rw [List.length_drop, List.length_drop, h.1, Nat.sub_mul], fun j p hj => ?_⟩
  rw [List.getElem?_drop] at hj
  have h2 := h.2 (i + j) p hj
  rwa [List.drop_drop, ← Nat.add_mul]
theorem reps_app (h : Reps R s ps cs) (k : Reps R s qs ds) : Reps R s (ps ++ qs) (cs ++ ds) := by
  refine ⟨by rw [List.length_append, List.length_append, h.1, k.1, Nat.add_mul], fun j p hj => ?_⟩
  rcases Nat.lt_or_ge j ps.length with h1 | h1
  · rw [List.getElem?_append_left h1] at hj
    have h2 := h.2 j p hj
    have h3 : (j + 1) * s ≤ cs.length := by rw [h.1]; exact Nat.mul_le_mul_right _ h1
    rw [Nat.add_mul, Nat.one_mul] at h3
    rw [List.drop_append_of_le_length (by omega), List.take_append_of_le_length (by rw [List.length_drop]; omega)]
    exact h2
  · rw [List.getElem?_append_right h1] at hj
    have h2 := k.2 (j - ps.length) p hj
    have e : j * s = cs.length + (j - ps.length) * s := by rw [h.1, ← Nat.add_mul, Nat.add_sub_cancel' h1]
    rw [e, ← List.drop_drop, List.drop_left]
    exact h2
end
/-! ### Rows of the call's own as blocks -/
/-- A kind without rows inside: what its cells say hangs on no memory. -/
structure Flat {α : Type} (d : Kd α) : Prop where
  km : ∀ {w w' : World} {base : Nat} {ok : Nat → Prop} {x : α} {cs : List Value}, d.K w x cs → d.M w' base ok x cs
section
variable {α : Type} {d : Kd α} {e base : Nat} {ok : Nat → Prop} {w : World} {v : Value} {xs : List α}
theorem R_open (h : d.R e w base ok v xs) (h0 : xs ≠ []) : ∃ g cap cur, v = .slice (some ⟨g, 0, none⟩) xs.length cap ∧ ok g ∧ base ≤ g ∧ w.heap[g]? = some (.cells cur e (0, 0)) ∧ xs.length ≤ cap ∧ cap ≤ maxLen ∧ cur.size = cap * d.sz ∧
    Reps (d.K w) d.sz xs (cur.toList.take (xs.length * d.sz)) := by
  obtain ⟨hok, inner, ⟨hl, ho⟩, hr⟩ := h
  rcases ho with ⟨rfl, h1⟩ | ⟨g, cap, cur, rfl, h1, h2, h3, h4, h5, h6⟩
  · exact absurd (List.length_eq_zero_iff.1 h1) h0
  · refine ⟨g, cap, cur, rfl, hok g rfl, h1, h2, h3, h4, h5, ?_⟩
    rw [h6]
    exact hr.imp_ (fun _ _ hp => d.K_of_M hp)
theorem R_block (hf : Flat d) {w0 : World} {g cap : Nat} {cur : Array Value} (hok : ok g) (hbase : base ≤ g) (hb : w.heap[g]? = some (.cells cur e (0, 0))) (hn : xs.length ≤ cap) (hcap : cap ≤ maxLen) (hsz : cur.size = cap * d.sz)
    (hr : Reps (d.K w0) d.sz xs (cur.toList.take (xs.length * d.sz))) : d.R e w base ok (.slice (some ⟨g, 0, none⟩) xs.length cap) xs :=
  ⟨fun k hk => by obtain rfl : g = k := by simpa [Value.ownBlock] using hk
                  exact hok, _, ⟨hr.1, .inr ⟨g, cap, cur, rfl, hbase, hb, hn, hcap, hsz, rfl⟩⟩, hr.imp_ (fun _ _ hp => hf.km hp)⟩
end
/-- Of a block: its cells, none of them frozen. -/
theorem blk_get {w : World} {g : Nat} {cur : Array Value} {t : TypeId} (hb : w.heap[g]? = some (.cells cur t (0, 0))) (j : Nat) (v : Value) (h : cur.toList[j]? = some v) : w.cell? ⟨g, j, none⟩ = some v := by
  rw [blk_cell hb j, ← Array.getElem?_toList]; exact h
theorem blk_some {w : World} {g : Nat} {cur : Array Value} {t : TypeId} (hb : w.heap[g]? = some (.cells cur t (0, 0))) (j : Nat) (h : j < cur.size) : (w.cell? ⟨g, j, none⟩).isSome = true := by
  rw [blk_cell hb j, Array.getElem?_eq_getElem h]; rfl
end Go.Proofs.YthjiiifnlhbffaaDoor.KR
