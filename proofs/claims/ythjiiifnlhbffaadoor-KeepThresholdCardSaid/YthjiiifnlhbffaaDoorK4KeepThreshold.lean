/- What the printed functions of keep tell: one more. -/
import Derived.Test.YthjiiifnlhbffaaDoorK3KeepThreshold
namespace Go.Proofs.YthjiiifnlhbffaaDoor.GKeepThreshold
open Go.RowKit Go.Proofs.YthjiiifnlhbffaaDoorW.PrintWords Go.Proofs.YthjiiifnlhbffaaDoorW.PrintLast Go.Proofs.YthjiiifnlhbffaaDoorW.PrintMore Go.Proofs.YthjiiifnlhbffaaDoor.Pl
set_option linter.unusedVariables false
set_option linter.unusedSimpArgs false

theorem clone_fi {l : List S25} (h : l.length < 4398046511104) : api_Item_19.f l = some l := by
  unfold api_Item_19.f
  simp only [Option.bind_some, List.nil_append, List.length_nil, Nat.zero_add, if_pos h]
theorem delete_f {l : List S25} {i : Nat} (h : i < l.length) (hl : l.length < 4398046511104) : api_Item_33.f l (i : Int) (wrap64 ((i : Int) + 1)) = some (l.eraseIdx i) := by
  unfold api_Item_33.f
  rw [w64 (by omega) (by omega), if_pos (by omega), if_pos rfl, if_pos (by omega), Int.toNat_natCast, List.eraseIdx_eq_take_drop_succ]
theorem insert_f {l : List S25} {p : Nat} {x : S25} (h : p ≤ l.length) (hl : l.length < 4398046511104) : api_Item_35.f l (p : Int) [x] = some (ins l p x) := by
  unfold api_Item_35.f
  rw [if_pos (by omega), if_pos (by omega), if_pos hl, Int.toNat_natCast]; exact (if_pos rfl).trans rfl
theorem index_f (l : List S25) (x : S25) : (slices_IndexFunc_1.f l x.f0 x.f1 x.f2 = some (-1) ∧ ∀ y ∈ l, (toIt y).k ≠ (toIt x).k) ∨ ∃ (i : Nat) (h : i < l.length), slices_IndexFunc_1.f l x.f0 x.f1 x.f2 = some (i : Int) ∧ (toIt l[i]).k = (toIt x).k := by
  unfold slices_IndexFunc_1.f slices_IndexFunc_1.ix
  rcases h : l.findIdx? (fun y => y.f0.toList == x.f0.toList) with _ | i
  · refine .inl ⟨by simp only [h], fun y hy e => ?_⟩
    rw [List.findIdx?_eq_none_iff] at h
    have := h y hy
    simp only [ByteArray.toList_eq, beq_eq_false_iff_ne] at this
    exact this e
  · have h0 := h
    rw [List.findIdx?_eq_some_iff_getElem] at h
    obtain ⟨hi, he, _⟩ := h
    refine .inr ⟨i, hi, by simp only [h0], ?_⟩
    simp only [ByteArray.toList_eq, beq_iff_eq] at he
    exact he
theorem map_ins {α β : Type} (f : α → β) (l : List α) (p : Nat) (x : α) : (ins l p x).map f = ins (l.map f) p (f x) := by
  unfold ins; rw [List.map_append, List.map_append, List.map_take, List.map_drop]; rfl
theorem map_erase {α β : Type} (f : α → β) : ∀ (l : List α) (i : Nat), (l.eraseIdx i).map f = (l.map f).eraseIdx i
  | [], _ => rfl
  | _ :: _, 0 => rfl
  | a :: l, i + 1 => congrArg (f a :: ·) (map_erase f l i)
theorem pos_of {l : List S25} (hw : ∀ x ∈ l, WfI x) (hm : ∀ x ∈ l, May x) : Pos (l.map toIt) := fun y hy => by
  obtain ⟨x, hx, rfl⟩ := List.mem_map.1 hy
  have h1 := (hm x hx).2
  have h2 := (hw x hx).w0
  show 0 < x.f2
  omega
/-! ### The place -/
theorem bs_l0 {l : List S25} {x : S25} (hw : ∀ x ∈ l, WfI x) (hx : WfI x) (hs : Srt (l.map toIt)) (hp : Pos (l.map toIt)) (hx0 : 0 < (toIt x).w) (hl : l.length < 4398046511104) : ∀ (d i j : Nat), j - i ≤ d → i ≤ j → j ≤ l.length →
    (∀ m (h : m < l.length), m < i → cmpIt (toIt l[m]) (toIt x) < 0) → (∀ m (h : m < l.length), j ≤ m → 0 ≤ cmpIt (toIt l[m]) (toIt x)) →
    ∃ (p : Nat) (b : Bool), PlaceOf (l.map toIt) (toIt x) p ∧ Ev (fun k => api_Item_34__rank_Cmp.l0 k l (l.length : Int) (i : Int) (j : Int) x.f0 x.f1 x.f2) ((p : Int), b) := by
  intro d
  induction d with
  | zero =>
    intro i j hd hij hj hlo hhi
    obtain rfl : i = j := by omega
    have hpl : PlaceOf (l.map toIt) (toIt x) i := ⟨by rw [List.length_map]; exact hj, fun m h hm => by rw [List.length_map] at h; rw [List.getElem_map]; exact hlo m h hm, fun m h hm => by rw [List.length_map] at h; rw [List.getElem_map]; exact hhi m h hm⟩
    rcases Nat.lt_or_ge i l.length with h1 | h1
    · refine ⟨i, (cmpIt (toIt l[i]) (toIt x) == 0), hpl, ?_⟩
      refine Ev.step (fun k => api_Item_34__rank_Cmp.l0.eq_2 _ _ _ _ _ _ _ k) ?_
      refine ev_neg (by omega) (ev_pos (by omega) (ev_pos (by omega) (ev_pos (by omega) ?_)))
      rw [rd_get h1]
      exact ev_bindr (cmp_f2 (hw _ (List.getElem_mem _)) hx) rfl
    · refine ⟨i, false, hpl, ?_⟩
      refine Ev.step (fun k => api_Item_34__rank_Cmp.l0.eq_2 _ _ _ _ _ _ _ k) ?_
      exact ev_neg (by omega) (ev_neg (by omega) (ev_now rfl))
  | succ d ih =>
    intro i j hd hij hj hlo hhi
    rcases Nat.lt_or_ge i j with h1 | h1
    · obtain ⟨h, hh⟩ : ∃ h, h = (i + j) / 2 := ⟨_, rfl⟩
      have hhl : h < l.length := by omega
      have e1 : wrap64 ((IntKind.u64.wrap (wrap64 ((i : Int) + (j : Int)))) / 2) = (h : Int) := by
        rw [w64 (n := (i : Int) + (j : Int)) (by omega) (by omega), u64_in (n := (i : Int) + (j : Int)) (by omega) (by omega), w64 (n := ((i : Int) + (j : Int)) / 2) (by omega) (by omega)]; omega
      have e2 : wrap64 ((h : Int) + 1) = ((h + 1 : Nat) : Int) := by rw [w64 (by omega) (by omega)]; omega
      have hcmp := cmp_f2 (hw _ (List.getElem_mem hhl)) hx
      have pm : ∀ m (h : m < l.length), 0 < (toIt l[m]).w := fun m h => hp _ (List.mem_map.2 ⟨_, List.getElem_mem h, rfl⟩)
      have sg_ : ∀ m m' (h : m' < l.length) (hlt : m < m'), cmpIt (toIt (l[m]'(by omega))) (toIt l[m']) ≤ 0 := fun m m' h hlt => by
        have := srt_get hs (i := m) (j := m') (by rw [List.length_map]; omega) hlt
        rwa [List.getElem_map, List.getElem_map] at this
      by_cases hc : cmpIt (toIt l[h]) (toIt x) < 0
      · obtain ⟨p, b, hpl, hev⟩ := ih (h + 1) j (by omega) (by omega) hj (fun m hm hlt => by
          rcases Nat.lt_or_ge m h with h3 | h3
          · exact cmp_lt_le (pm m hm) (pm h hhl) hx0 (sg_ m h hhl h3) hc
          · obtain rfl : m = h := by omega
            exact hc) hhi
        refine ⟨p, b, hpl, ?_⟩
        refine Ev.step (fun k => api_Item_34__rank_Cmp.l0.eq_2 _ _ _ _ _ _ _ k) ?_
        rw [e1]
        refine ev_pos (by omega) (ev_pos (by omega) (ev_pos (by omega) ?_))
        rw [rd_get hhl, e2]
        exact ev_bind hcmp (ev_pos hc hev)
      · obtain ⟨p, b, hpl, hev⟩ := ih i h (by omega) (by omega) (by omega) hlo (fun m hm hge => by
          rcases Nat.lt_or_ge h m with h3 | h3
          · rcases Int.lt_or_le (cmpIt (toIt l[m]) (toIt x)) 0 with h4 | h4
            · exact absurd (cmp_lt_le (pm h hhl) (pm m hm) hx0 (sg_ h m hm h3) h4) hc
            · exact h4
          · obtain rfl : m = h := by omega
            omega)
        refine ⟨p, b, hpl, ?_⟩
        refine Ev.step (fun k => api_Item_34__rank_Cmp.l0.eq_2 _ _ _ _ _ _ _ k) ?_
        rw [e1]
        refine ev_pos (by omega) (ev_pos (by omega) (ev_pos (by omega) ?_))
        rw [rd_get hhl]
        exact ev_bind hcmp (ev_neg hc hev)
    · obtain rfl : i = j := by omega
      exact ih i i (by omega) (Nat.le_refl _) hj hlo hhi
theorem place_f {l : List S25} {x : S25} (hw : ∀ x ∈ l, WfI x) (hx : WfI x) (hs : Srt (l.map toIt)) (hp : Pos (l.map toIt)) (hx0 : 0 < (toIt x).w) (hl : l.length < 4398046511104) :
    ∃ (p : Nat) (b : Bool), PlaceOf (l.map toIt) (toIt x) p ∧ Ev (fun k => api_Item_34__rank_Cmp.f k l x.f0 x.f1 x.f2) ((p : Int), b) :=
  bs_l0 hw hx hs hp hx0 hl l.length 0 l.length (by omega) (by omega) (Nat.le_refl _) (fun m _ h => by omega) (fun m h h2 => by omega)
/-! ### One more -/
/-- What one more makes of the first ones. -/
structure Added (n : Nat) (l r : List S25) : Prop where
  wf : ∀ y ∈ r, WfI y
  good : Good r
  len : r.length ≤ n + 1
  full : l.length = n + 1 → r.length = n + 1
  rk : ∀ (h : l.length = n + 1) (h2 : r.length = n + 1), rkLe (toIt (r[n]'(by omega))) (toIt (l[n]'(by omega)))
theorem take_good {l : List S25} (h : Good l) (m : Nat) : Good (l.take m) :=
  ⟨fun x hx => h.may x (List.mem_of_mem_take hx), by rw [List.map_take]; exact List.Pairwise.sublist (List.take_sublist _ _) h.srt, by rw [List.map_take]; exact List.Pairwise.sublist (List.take_sublist _ _) h.dst⟩
theorem ins_good {l : List S25} {x : S25} {p : Nat} (h : Good l) (hm : May x) (hpl : PlaceOf (l.map toIt) (toIt x) p) (hk : ∀ y ∈ l, (toIt y).k ≠ (toIt x).k) : Good (ins l p x) :=
  ⟨fun y hy => by
    rcases mem_ins hy with rfl | hy
    · exact hm
    · exact h.may y hy, by rw [map_ins]; exact hpl.srt h.srt, by
    rw [map_ins]
    have hk2 : ∀ y ∈ l.map toIt, y.k ≠ (toIt x).k := fun y hy => by
      obtain ⟨z, hz, rfl⟩ := List.mem_map.1 hy
      exact hk z hz
    exact pw_ins h.dst (fun y hy => hk2 y (List.mem_of_mem_take hy)) (fun y hy => (hk2 y (List.mem_of_mem_drop hy)).symm)⟩
theorem erase_good {l : List S25} (h : Good l) (i : Nat) : Good (l.eraseIdx i) :=
  ⟨fun x hx => h.may x (List.mem_of_mem_eraseIdx hx), List.Pairwise.sublist ((List.eraseIdx_sublist _ _).map _) h.srt, List.Pairwise.sublist ((List.eraseIdx_sublist _ _).map _) h.dst⟩
/-- Whose key is taken out is there no more. -/
theorem erase_key {l : List S25} (h : Good l) {i : Nat} (hi : i < l.length) : ∀ y ∈ l.eraseIdx i, (toIt y).k ≠ (toIt l[i]).k := fun y hy e => by
  rw [List.mem_eraseIdx_iff_getElem] at hy
  obtain ⟨j, hj, hne, rfl⟩ := hy
  rcases Nat.lt_trichotomy i j with h1 | h1 | h1
  · have := (List.pairwise_iff_getElem.1 h.dst) i j (by rw [List.length_map]; omega) (by rw [List.length_map]; omega) h1
    rw [List.getElem_map, List.getElem_map] at this
    exact this e.symm
  · exact hne h1.symm
  · have := (List.pairwise_iff_getElem.1 h.dst) j i (by rw [List.length_map]; omega) (by rw [List.length_map]; omega) h1
    rw [List.getElem_map, List.getElem_map] at this
    exact this e
/-- The end of add: in its place, and the first ones of that. -/
theorem tail_add {out : List S25} {x : S25} {a : Int} {n : Nat} (ha : a = n) (h1 : 1 ≤ n) (h2 : n ≤ 1024) (hw : ∀ y ∈ out, WfI y) (hx : WfI x) (hm : May x) (hg : Good out) (hl : out.length ≤ n + 1) (hk : ∀ y ∈ out, (toIt y).k ≠ (toIt x).k) :
    ∃ p, PlaceOf (out.map toIt) (toIt x) p ∧ Ev (fun k => (api_Item_34__rank_Cmp.f k out x.f0 x.f1 x.f2).bind fun bt => ((api_Item_35.f out bt.1 (([(⟨x.f0, x.f1, x.f2⟩ : S25)] : List S25))).bind fun t => (if 0 ≤ (mn (t.length : Int) (wrap64 (a + 1))) then (if (mn (t.length : Int) (wrap64 (a + 1))) ≤ (t.length : Int) then (some (t.take ((mn (t.length : Int) (wrap64 (a + 1))) : Int).toNat)) else (none)) else (none)))) ((ins out p x).take (n + 1)) := by
  have hx0 : 0 < (toIt x).w := by
    have h1 := hm.2
    have h2 := hx.w0
    show 0 < x.f2
    omega
  obtain ⟨p, b, hpl, hev⟩ := place_f hw hx hg.srt (pos_of hw hg.may) hx0 (by omega)
  have hple : p ≤ out.length := by have := hpl.le; rwa [List.length_map] at this
  have hlen := ins_length out p x hple
  refine ⟨p, hpl, ev_bind hev (ev_bindc (insert_f (x := x) hple (by omega)) ?_)⟩
  have hwr : wrap64 (a + 1) = ((n + 1 : Nat) : Int) := by rw [w64 (by omega) (by omega)]; omega
  have hmn : mn ((ins out p x).length : Int) ((n + 1 : Nat) : Int) = ((min (ins out p x).length (n + 1) : Nat) : Int) := by unfold mn; split <;> omega
  rw [hwr, hmn]
  refine ev_pos (by omega) (ev_pos (by omega) (ev_now ?_))
  rw [Int.toNat_natCast]
  rcases Nat.le_total (ins out p x).length (n + 1) with h | h
  · rw [Nat.min_eq_left h, List.take_length, List.take_of_length_le h]
  · rw [Nat.min_eq_right h]
theorem take_get {α : Type} {l : List α} {n : Nat} (h : (l.take (n + 1)).length = n + 1) : l[n]? = some ((l.take (n + 1))[n]'(by omega)) := by
  have hl : n < l.length := by rw [List.length_take] at h; omega
  rw [List.getElem_take, List.getElem?_eq_getElem hl]
theorem map_get {l : List S25} {n : Nat} {y : S25} (h : l[n]? = some y) : (l.map toIt)[n]? = some (toIt y) := by rw [List.getElem?_map, h]; rfl
theorem add_f2 {l : List S25} {x : S25} {a : Int} {n : Nat} (ha : a = n) (hw : ∀ y ∈ l, WfI y) (hx : WfI x) (hm : May x) (hk : IsKeep a l) : ∃ r, Added n l r ∧ Ev (fun k => keep_add.f k a l x.f0 x.f1 x.f2) r := by
  obtain ⟨h1, h2, h3, hg⟩ := hk
  have hl : l.length ≤ n + 1 := by omega
  have hx0 : 0 < (toIt x).w := by
    have h1 := hm.2
    have h2 := hx.w0
    show 0 < x.f2
    omega
  have hpos := pos_of hw hg.may
  rcases index_f l x with ⟨he, hno⟩ | ⟨i, hi, he, hik⟩
  · obtain ⟨p, hpl, hev⟩ := tail_add ha (by omega) (by omega) hw hx hm hg hl hno
    have hple : p ≤ l.length := by have := hpl.le; rwa [List.length_map] at this
    have hlen := ins_length l p x hple
    refine ⟨(ins l p x).take (n + 1), ⟨fun y hy => ?_, take_good (ins_good hg hm hpl hno) _, by rw [List.length_take]; omega, fun h => by rw [List.length_take]; omega, fun h h2 => ?_⟩, ?_⟩
    · rcases mem_ins (List.mem_of_mem_take hy) with rfl | hy
      · exact hx
      · exact hw y hy
    · have := rk_more hg.srt (by rw [List.length_map]; exact h) hpl (by rw [← map_ins]; exact map_get (take_get h2))
      rwa [List.getElem_map] at this
    · unfold keep_add.f
      exact ev_bindc (clone_fi (by omega)) (ev_bindc he (ev_neg (by omega) hev))
  · have hri := rd_get hi
    have hcmp := cmp_f2 hx (hw _ (List.getElem_mem hi))
    by_cases hc : cmpIt (toIt x) (toIt l[i]) ≥ 0
    · refine ⟨l, ⟨hw, hg, hl, fun h => h, fun h h2 => rkLe.refl _⟩, ?_⟩
      unfold keep_add.f
      refine ev_bindc (clone_fi (by omega)) (ev_bindc he (ev_pos (by omega) (ev_pos (by omega) (ev_pos (by omega) ?_))))
      rw [hri]
      exact ev_bind hcmp (ev_pos hc (ev_now rfl))
    · have hel : (l.eraseIdx i).length = l.length - 1 := List.length_eraseIdx_of_lt hi
      have hwe : ∀ y ∈ l.eraseIdx i, WfI y := fun y hy => hw y (List.mem_of_mem_eraseIdx hy)
      have hke : ∀ y ∈ l.eraseIdx i, (toIt y).k ≠ (toIt x).k := fun y hy => by rw [← hik]; exact erase_key hg hi y hy
      obtain ⟨p, hpl, hev⟩ := tail_add ha (by omega) (by omega) hwe hx hm (erase_good hg i) (by omega) hke
      have hple : p ≤ (l.eraseIdx i).length := by have := hpl.le; rwa [List.length_map] at this
      have hlen := ins_length (l.eraseIdx i) p x hple
      refine ⟨(ins (l.eraseIdx i) p x).take (n + 1), ⟨fun y hy => ?_, take_good (ins_good (erase_good hg i) hm hpl hke) _, by rw [List.length_take]; omega, fun h => by rw [List.length_take]; omega, fun h h2 => ?_⟩, ?_⟩
      · rcases mem_ins (List.mem_of_mem_take hy) with rfl | hy
        · exact hx
        · exact hwe y hy
      · have hm2 := map_get (take_get h2)
        rw [map_ins, map_erase] at hm2
        have := rk_swap (i := i) hg.srt hpos hx0 (by rw [List.length_map]; exact h) (by rw [List.length_map]; exact hi) (by rw [List.getElem_map]; omega) hm2
        rwa [List.getElem_map] at this
      · unfold keep_add.f
        refine ev_bindc (clone_fi (by omega)) (ev_bindc he (ev_pos (by omega) (ev_pos (by omega) (ev_pos (by omega) ?_))))
        rw [hri]
        exact ev_bind hcmp (ev_neg hc (ev_bindc (delete_f hi (by omega)) hev))
end Go.Proofs.YthjiiifnlhbffaaDoor.GKeepThreshold
