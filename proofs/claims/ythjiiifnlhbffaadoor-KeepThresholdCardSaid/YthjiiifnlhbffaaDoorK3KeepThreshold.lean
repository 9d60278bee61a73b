/- What the printed functions of rank and keep tell. -/
import Derived.Test.YthjiiifnlhbffaaDoorA8KeepThreshold
import Derived.Test.YthjiiifnlhbffaaDoorK2
import Derived.Laws.MathBits
namespace Go.Proofs.YthjiiifnlhbffaaDoor.GKeepThreshold
open Go.RowKit Go.Proofs.YthjiiifnlhbffaaDoorW.PrintWords Go.Proofs.YthjiiifnlhbffaaDoorW.PrintLast Go.Proofs.YthjiiifnlhbffaaDoorW.PrintMore Go.Proofs.YthjiiifnlhbffaaDoor.Pl
set_option linter.unusedVariables false
set_option linter.unusedSimpArgs false

def toIt (x : S25) : It := ⟨x.f0.data.toList, x.f1, x.f2⟩
structure WfI (x : S25) : Prop where
  u0 : 0 ≤ x.f1
  u1 : x.f1 < 18446744073709551616
  w0 : 0 ≤ x.f2
  w1 : x.f2 < 18446744073709551616
theorem and32 {a : Int} (h0 : 0 ≤ a) (h1 : a < 18446744073709551616) : Go.bits .and .u64 a 4294967295 = a % 4294967296 := by
  have e := bits_mask .u64 64 (by decide) (fun n h0 h1 => u64_in h0 h1) 32 (by decide) a h0 h1
  rw [show ((2 : Int) ^ 32 - 1) = 4294967295 from by decide, show (2 : Int) ^ 32 = 4294967296 from by decide] at e
  exact e
theorem full_f {a b : Int} (ha : 0 ≤ a) (ha1 : a < 18446744073709551616) (hb : 0 ≤ b) (hb1 : b < 18446744073709551616) : wide_Full.f a b = some (a * b / 18446744073709551616, a * b % 18446744073709551616) := by
  unfold wide_Full.f bits_Mul64.f
  simp only [Option.bind_some, and32 ha ha1, and32 hb hb1, IntKind.wrap_u64]
  rw [and32 (Int.emod_nonneg _ (by decide)) (Int.emod_lt_of_pos _ (by decide)), mul64_arith a b ha ha1 hb hb1]
theorem worder_f (a b : Int) : wide_order.f a b = some (sg a b) := by unfold wide_order.f sg; split <;> (try split) <;> rfl
theorem sg_parts (x y : Int) : (if sg (x / 18446744073709551616) (y / 18446744073709551616) = 0 then sg (x % 18446744073709551616) (y % 18446744073709551616) else sg (x / 18446744073709551616) (y / 18446744073709551616)) = sg x y := by
  have h1 := Int.mul_ediv_add_emod x 18446744073709551616
  have h2 := Int.mul_ediv_add_emod y 18446744073709551616
  have h3 := Int.emod_nonneg x (show (18446744073709551616 : Int) ≠ 0 by decide)
  have h4 := Int.emod_lt_of_pos x (show (0 : Int) < 18446744073709551616 by decide)
  have h5 := Int.emod_nonneg y (show (18446744073709551616 : Int) ≠ 0 by decide)
  have h6 := Int.emod_lt_of_pos y (show (0 : Int) < 18446744073709551616 by decide)
  generalize x / 18446744073709551616 = a at *
  generalize y / 18446744073709551616 = b at *
  generalize x % 18446744073709551616 = c at *
  generalize y % 18446744073709551616 = d at *
  unfold sg
  split <;> (try split) <;> (try split) <;> (try split) <;> (try split) <;> omega
theorem wcmp_f (x y : Int) : wide_Cmp.f (x / 18446744073709551616) (x % 18446744073709551616) (y / 18446744073709551616) (y % 18446744073709551616) = some (sg x y) := by
  unfold wide_Cmp.f
  rw [worder_f, worder_f]
  simp only [Option.bind_some]
  rw [← sg_parts x y]
  split <;> rfl
theorem or_f (a b : Int) : Ev (fun k => cmp_Or_int.f k [a, b]) (if a = 0 then b else a) := by
  have w1 : wrap64 (0 + 1) = 1 := by decide +kernel
  have w2 : wrap64 (1 + 1) = 2 := by decide +kernel
  have r0 : rd [a, b] 0 = a := rfl
  have r1 : rd [a, b] 1 = b := rfl
  refine Ev.step (fun k => cmp_Or_int.l0.eq_2 _ _ _ _ k) ?_
  refine ev_pos (by simp) (ev_pos (by decide) (ev_pos (by simp) ?_))
  rw [r0, w1]
  by_cases h : a = 0
  · rw [if_pos h]
    refine ev_pos h ?_
    refine Ev.step (fun k => cmp_Or_int.l0.eq_2 _ _ _ _ k) ?_
    refine ev_pos (by simp) (ev_pos (by decide) (ev_pos (by simp) ?_))
    rw [r1, w2]
    by_cases h2 : b = 0
    · refine ev_pos h2 ?_
      refine Ev.step (fun k => cmp_Or_int.l0.eq_2 _ _ _ _ k) ?_
      exact ev_neg (by simp) (ev_now (by rw [h2]))
    · exact ev_neg h2 (ev_now rfl)
  · rw [if_neg h]
    exact ev_neg h (ev_now rfl)
theorem cmp_f2 {x y : S25} (hx : WfI x) (hy : WfI y) : Ev (fun k => rank_Cmp.f k x.f0 x.f1 x.f2 y.f0 y.f1 y.f2) (cmpIt (toIt x) (toIt y)) := by
  refine ev_bindc (full_f hx.u0 hx.u1 hy.w0 hy.w1) (ev_bindc (full_f hy.u0 hy.u1 hx.w0 hx.w1) (ev_bindc (wcmp_f _ _) (ev_bindc (x := Go.Lib.compareBytes x.f0.data.toList y.f0.data.toList) rfl (ev_bindr (or_f _ _) ?_))))
  unfold cmpIt toIt
  rfl
theorem check_f (x : S25) : rank_Check.f x.f0 x.f1 x.f2 = some (if x.f0.size > 64 then 5 else if x.f2 = 0 then 7 else 0) := by
  unfold rank_Check.f
  by_cases h : (x.f0.size : Int) > 64
  · rw [if_pos h, if_pos (by omega)]
  · rw [if_neg h, if_neg (c := x.f0.size > 64) (by omega)]
    split <;> rfl
def May (x : S25) : Prop := x.f0.size ≤ 64 ∧ x.f2 ≠ 0
theorem check_yes {x : S25} (h : May x) : rank_Check.f x.f0 x.f1 x.f2 = some 0 := by rw [check_f, if_neg (by have := h.1; omega), if_neg h.2]
theorem check_no {x : S25} (h : ¬ May x) : ∃ e, rank_Check.f x.f0 x.f1 x.f2 = some e ∧ e ≠ 0 := by
  rw [check_f]
  refine ⟨_, rfl, ?_⟩
  unfold May at h
  split
  · decide
  · split
    · decide
    · omega
theorem rd_get {l : List S25} {j : Nat} (h : j < l.length) : rd_T25 l (j : Int) = l[j] := by
  unfold rd_T25
  rw [Int.toNat_natCast, List.getD_eq_getElem?_getD, List.getElem?_eq_getElem h]; rfl

/-! ### Right -/
/-- A keep's items. -/
structure Good (l : List S25) : Prop where
  may : ∀ x ∈ l, May x
  srt : Srt (l.map toIt)
  dst : Dst (l.map toIt)
/-- How it is told, item by item. -/
def okAt (l : List S25) (j : Nat) : Prop := May (rd_T25 l j) ∧ keep_Right.seen l j (rd_T25 l j).f0 = false ∧ (j = 0 ∨ cmpIt (toIt (rd_T25 l ((j - 1 : Nat) : Int))) (toIt (rd_T25 l j)) ≤ 0)
noncomputable instance (l : List S25) (j : Nat) : Decidable (okAt l j) := Classical.propDecidable _
noncomputable instance (n i : Nat) (l : List S25) : Decidable (∀ j, i ≤ j → j < i + n → okAt l j) := Classical.propDecidable _
theorem ev_congr {α : Type} {g g' : Nat → Option α} {r : α} (h : ∀ k, g k = g' k) (e : Ev g' r) : Ev g r := by rw [show g = g' from funext h]; exact e
theorem go_f {l : List S25} (hw : ∀ x ∈ l, WfI x) : ∀ (n i : Nat), i + n = l.length → Ev (fun k => keep_Right.go k l n i) (decide (∀ j, i ≤ j → j < i + n → okAt l j))
  | 0, i => fun _ => ev_now (by rw [decide_eq_true (fun j h1 h2 => by omega)])
  | n + 1, i => fun hi => by
    have ih := go_f hw n (i + 1) (by omega)
    have hil : i < l.length := by omega
    have hri := rd_get hil
    have hwi : WfI (rd_T25 l i) := by rw [hri]; exact hw _ (List.getElem_mem _)
    have next : okAt l i → decide (∀ j, i + 1 ≤ j → j < i + 1 + n → okAt l j) = decide (∀ j, i ≤ j → j < i + (n + 1) → okAt l j) := fun h0 => by
      refine decide_eq_decide.2 ⟨fun h j h1 h2 => ?_, fun h j h1 h2 => h j (by omega) (by omega)⟩
      rcases Nat.eq_or_lt_of_le h1 with h3 | h3
      · exact h3 ▸ h0
      · exact h j h3 (by omega)
    have stop : ¬ okAt l i → decide (∀ j, i ≤ j → j < i + (n + 1) → okAt l j) = false := fun h0 => decide_eq_false fun h => h0 (h i (Nat.le_refl _) (by omega))
    refine ev_congr (fun k => keep_Right.go.eq_2 _ _ _ _) ?_
    by_cases hm : May (rd_T25 l i)
    · refine ev_bindc (check_yes hm) (ev_pos rfl ?_)
      by_cases hs : keep_Right.seen l i (rd_T25 l i).f0 = true
      · rw [stop (fun h => by rw [h.2.1] at hs; cases hs)]
        exact ev_pos hs (ev_now rfl)
      · refine ev_neg hs ?_
        have hsf : keep_Right.seen l i (rd_T25 l i).f0 = false := by simpa using hs
        by_cases h0 : i = 0
        · exact ev_pos h0 (ev_eq ih (next ⟨hm, hsf, .inl h0⟩))
        · refine ev_neg h0 ?_
          have hwp : WfI (rd_T25 l ((i - 1 : Nat) : Int)) := by rw [rd_get (by omega)]; exact hw _ (List.getElem_mem _)
          refine ev_bind (cmp_f2 hwp hwi) ?_
          by_cases hc : cmpIt (toIt (rd_T25 l ((i - 1 : Nat) : Int))) (toIt (rd_T25 l i)) > 0
          · rw [stop (fun h => by rcases h.2.2 with h | h <;> omega)]
            exact ev_pos hc (ev_now rfl)
          · exact ev_neg hc (ev_eq ih (next ⟨hm, hsf, .inr (by omega)⟩))
    · obtain ⟨e, he, hne⟩ := check_no hm
      rw [stop (fun h => hm h.1)]
      exact ev_bindc he (ev_neg hne (ev_now rfl))
theorem seen_iff (l : List S25) (i : Nat) (s : ByteArray) : keep_Right.seen l i s = true ↔ ∃ y ∈ l.take i, y.f0.data.toList = s.data.toList := by
  unfold keep_Right.seen
  simp [List.any_eq_true, ByteArray.toList_eq]
theorem good_iff {l : List S25} (hw : ∀ x ∈ l, WfI x) : (∀ j, 0 ≤ j → j < 0 + l.length → okAt l j) ↔ Good l := by
  constructor
  · intro h
    have hmay : ∀ x ∈ l, May x := fun x hx => by
      obtain ⟨j, hj, rfl⟩ := List.getElem_of_mem hx
      have := (h j (by omega) (by omega)).1
      rwa [rd_get hj] at this
    refine ⟨hmay, srt_of (fun y hy => ?_) (fun i hi => ?_), List.pairwise_iff_getElem.2 fun i j hi hj hij => ?_⟩
    · obtain ⟨x, hx, rfl⟩ := List.mem_map.1 hy
      have h1 := (hmay x hx).2
      have h2 := (hw x hx).w0
      show 0 < x.f2
      omega
    · rw [List.length_map] at hi
      have := (h (i + 1) (by omega) (by omega)).2.2
      rw [Nat.add_sub_cancel, rd_get hi, rd_get (show i < l.length by omega)] at this
      rw [List.getElem_map, List.getElem_map]
      omega
    · rw [List.length_map] at hi hj
      have := (h j (by omega) (by omega)).2.1
      rw [rd_get hj] at this
      rw [List.getElem_map, List.getElem_map]
      intro e
      have h2 : keep_Right.seen l j l[j].f0 = true := (seen_iff l j _).2 ⟨l[i], by rw [List.mem_take_iff_getElem]; exact ⟨i, by omega, rfl⟩, e⟩
      rw [this] at h2; cases h2
  · intro h j _ hj
    have hjl : j < l.length := by omega
    unfold okAt
    rw [rd_get hjl]
    refine ⟨h.may _ (List.getElem_mem _), ?_, ?_⟩
    · rcases hb : keep_Right.seen l j l[j].f0 with _ | _
      · rfl
      · obtain ⟨y, hy, e⟩ := (seen_iff l j _).1 hb
        obtain ⟨i, hi, rfl⟩ := List.getElem_of_mem hy
        rw [List.length_take] at hi
        rw [List.getElem_take] at e
        have := (List.pairwise_iff_getElem.1 h.dst) i j (by rw [List.length_map]; omega) (by rw [List.length_map]; omega) (by omega)
        rw [List.getElem_map, List.getElem_map] at this
        exact absurd e this
    · rcases Nat.eq_zero_or_pos j with h0 | h0
      · exact .inl h0
      · have := srt_get h.srt (i := j - 1) (j := j) (by rw [List.length_map]; omega) (by omega)
        rw [List.getElem_map, List.getElem_map] at this
        rw [rd_get (show j - 1 < l.length by omega)]
        exact .inr this
noncomputable instance (l : List S25) : Decidable (Good l) := Classical.propDecidable _
theorem fits_f (a : Int) : keep_fits.f a = some (decide (1 ≤ a ∧ a ≤ 1024)) := by
  unfold keep_fits.f
  by_cases h : a ≥ 1
  · rw [if_pos h]
    congr 1
    exact decide_eq_decide.2 ⟨fun h2 => ⟨h, h2⟩, fun h2 => h2.2⟩
  · rw [if_neg h, decide_eq_false (fun h2 => h h2.1)]
/-- A keep. -/
def IsKeep (a : Int) (l : List S25) : Prop := 1 ≤ a ∧ a ≤ 1024 ∧ (l.length : Int) ≤ a + 1 ∧ Good l
noncomputable instance (a : Int) (l : List S25) : Decidable (IsKeep a l) := Classical.propDecidable _
theorem right_f2 {a : Int} {l : List S25} (hw : ∀ x ∈ l, WfI x) : Ev (fun k => keep_Right.f k a l) (decide (IsKeep a l)) := by
  unfold keep_Right.f
  refine ev_bindc (fits_f a) ?_
  by_cases h1 : 1 ≤ a ∧ a ≤ 1024
  · refine ev_pos (decide_eq_true h1) ?_
    have hwr : wrap64 (a + 1) = a + 1 := w64 (by omega) (by omega)
    rw [hwr]
    by_cases h2 : (l.length : Int) > a + 1
    · rw [decide_eq_false (fun h : IsKeep a l => by have := h.2.2.1; omega)]
      exact ev_pos h2 (ev_now rfl)
    · refine ev_neg h2 (ev_eq (go_f hw l.length 0 (by omega)) (decide_eq_decide.2 ((good_iff hw).trans ⟨fun h => ⟨h1.1, h1.2, by omega, h⟩, fun h => h.2.2.2⟩)))
  · rw [decide_eq_false (fun h : IsKeep a l => h1 ⟨h.1, h.2.1⟩)]
    exact ev_neg (by rw [decide_eq_false h1]; decide) (ev_now rfl)
end Go.Proofs.YthjiiifnlhbffaaDoor.GKeepThreshold
