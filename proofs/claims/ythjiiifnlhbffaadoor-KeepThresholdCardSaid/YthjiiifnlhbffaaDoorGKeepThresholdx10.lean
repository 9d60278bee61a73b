-- Written by gprint (wip/gprint), this session's program over the kit's print. Not trusted: Lean checks it.
import Derived.Test.YthjiiifnlhbffaaDoorGKeepThresholdx0
import Derived.Test.YthjiiifnlhbffaaDoorGKeepThresholdx1
import Derived.Test.YthjiiifnlhbffaaDoorGKeepThresholdx2
import Derived.Test.YthjiiifnlhbffaaDoorGKeepThresholdx3
import Derived.Test.YthjiiifnlhbffaaDoorGKeepThresholdx6
import Derived.Test.YthjiiifnlhbffaaDoorGKeepThresholdx7
import Derived.Test.YthjiiifnlhbffaaDoorGKeepThresholdx8
import Derived.Test.YthjiiifnlhbffaaDoorGKeepThresholdx9
namespace Go.Proofs.YthjiiifnlhbffaaDoor.GKeepThreshold
open Go.RowKit Go.Proofs.YthjiiifnlhbffaaDoorW.PrintWords Go.Proofs.YthjiiifnlhbffaaDoorW.PrintLast Go.Proofs.YthjiiifnlhbffaaDoorW.PrintMore
attribute [local go_sem] max2_int min2_int max_two min_two max_three min_three max_four min_four   -- for this text's walks alone
set_option linter.unusedVariables false
set_option linter.unusedSimpArgs false

/-! ### keep_add: function 18 -/
def keep_add.f (k : Nat) (a0 : Int) (l1 : List (S25)) (a2_0 : ByteArray) (a2_1 : Int) (a2_2 : Int) : Option ((List (S25))) := (api_Item_19.f l1).bind fun t328 => ((slices_IndexFunc_1.f t328 a2_0 a2_1 a2_2).bind fun t331 => (if t331 ≥ 0 then (if 0 ≤ t331 then (if t331 < (t328.length : Int) then ((rank_Cmp.f k a2_0 a2_1 a2_2 ((rd_T25 t328 t331).f0) ((rd_T25 t328 t331).f1) ((rd_T25 t328 t331).f2)).bind fun t333 => (if t333 ≥ 0 then (some t328) else ((api_Item_33.f t328 t331 (wrap64 (t331 + 1))).bind fun t334 => ((api_Item_34__rank_Cmp.f k t334 a2_0 a2_1 a2_2).bind fun bt337 => ((api_Item_35.f t334 bt337.1 (([(⟨a2_0, a2_1, a2_2⟩ : S25)] : List (S25)))).bind fun t342 => (if 0 ≤ (mn (t342.length : Int) (wrap64 (a0 + 1))) then (if (mn (t342.length : Int) (wrap64 (a0 + 1))) ≤ (t342.length : Int) then (some (t342.take ((mn (t342.length : Int) (wrap64 (a0 + 1))) : Int).toNat)) else (none)) else (none))))))) else (none)) else (none)) else ((api_Item_34__rank_Cmp.f k t328 a2_0 a2_1 a2_2).bind fun bt348 => ((api_Item_35.f t328 bt348.1 (([(⟨a2_0, a2_1, a2_2⟩ : S25)] : List (S25)))).bind fun t353 => (if 0 ≤ (mn (t353.length : Int) (wrap64 (a0 + 1))) then (if (mn (t353.length : Int) (wrap64 (a0 + 1))) ≤ (t353.length : Int) then (some (t353.take ((mn (t353.length : Int) (wrap64 (a0 + 1))) : Int).toNat)) else (none)) else (none))))))
theorem keep_add.mono : ∀ a0 a1 a2 a3 a4 k, LeO (keep_add.f k a0 a1 a2 a3 a4) (keep_add.f (k + 1) a0 a1 a2 a3 a4) := by
  intro a0 a1 a2 a3 a4 k
  unfold keep_add.f
  repeat' first
      | (with_reducible exact api_Item_34__rank_Cmp.mono _ _ _ _ _)
      | (with_reducible exact rank_Cmp.mono _ _ _ _ _ _ _)
      | (with_reducible exact LeO.refl _)
      | (with_reducible exact LeO.none _)
      | (with_reducible refine LeO.ite ?_ ?_)
      | (with_reducible refine LeO.bind ?_ (fun _ => ?_))
      | exact api_Item_34__rank_Cmp.mono _ _ _ _ _
      | exact rank_Cmp.mono _ _ _ _ _ _ _
      | exact LeO.none _
      | refine LeO.ite ?_ ?_
      | refine LeO.bind ?_ (fun _ => ?_)
set_option maxHeartbeats 8000000 in
set_option maxRecDepth 100000 in
theorem keep_add.calls (k : Nat) (a0 : Int) (A1 : Option Addr) (c1 : Nat) (l1 : List (S25)) (a2_0 : ByteArray) (a2_1 : Int) (a2_2 : Int) (r : List (S25)) (w : World) (hr1 : Kd.C k25 w A1 l1.length l1) (hc1 : l1.length ≤ c1) (h : keep_add.f k a0 l1 a2_0 a2_1 a2_2 = some r) :
    Calls Tryd.prog 18 #[.int .i64 a0, .slice A1 l1.length c1, .agg #[.string a2_0, .int .u64 a2_1, .int .u64 a2_2]] w fun e w' => ∃ v0_ : Value, e = .returned (v0_) ∧ Kd.R k25 25 w' w.heap.size (fun _ => True) v0_ r ∧ Below w.heap.size w w' := by
  have hu25 := Tryd.underlying25
  have HR1 := Aside0.mk hr1
  have HC1 := Aside0.mk hc1
  clear hr1 hc1
  have HB := Aside0.mk (Below.refl w.heap.size w)
  have H : ((api_Item_19.f l1).bind fun t328 => ((slices_IndexFunc_1.f t328 a2_0 a2_1 a2_2).bind fun t331 => (if t331 ≥ 0 then (if 0 ≤ t331 then (if t331 < (t328.length : Int) then ((rank_Cmp.f k a2_0 a2_1 a2_2 ((rd_T25 t328 t331).f0) ((rd_T25 t328 t331).f1) ((rd_T25 t328 t331).f2)).bind fun t333 => (if t333 ≥ 0 then (some t328) else ((api_Item_33.f t328 t331 (wrap64 (t331 + 1))).bind fun t334 => ((api_Item_34__rank_Cmp.f k t334 a2_0 a2_1 a2_2).bind fun bt337 => ((api_Item_35.f t334 bt337.1 (([(⟨a2_0, a2_1, a2_2⟩ : S25)] : List (S25)))).bind fun t342 => (if 0 ≤ (mn (t342.length : Int) (wrap64 (a0 + 1))) then (if (mn (t342.length : Int) (wrap64 (a0 + 1))) ≤ (t342.length : Int) then (some (t342.take ((mn (t342.length : Int) (wrap64 (a0 + 1))) : Int).toNat)) else (none)) else (none))))))) else (none)) else (none)) else ((api_Item_34__rank_Cmp.f k t328 a2_0 a2_1 a2_2).bind fun bt348 => ((api_Item_35.f t328 bt348.1 (([(⟨a2_0, a2_1, a2_2⟩ : S25)] : List (S25)))).bind fun t353 => (if 0 ≤ (mn (t353.length : Int) (wrap64 (a0 + 1))) then (if (mn (t353.length : Int) (wrap64 (a0 + 1))) ≤ (t353.length : Int) then (some (t353.take ((mn (t353.length : Int) (wrap64 (a0 + 1))) : Int).toNat)) else (none)) else (none))))))) = some r := h
  clear h
  replace H := Option.bind_eq_some_iff.mp H
  obtain ⟨t328, A40, H⟩ := H
  replace H : ((slices_IndexFunc_1.f t328 a2_0 a2_1 a2_2).bind fun t331 => (if t331 ≥ 0 then (if 0 ≤ t331 then (if t331 < (t328.length : Int) then ((rank_Cmp.f k a2_0 a2_1 a2_2 ((rd_T25 t328 t331).f0) ((rd_T25 t328 t331).f1) ((rd_T25 t328 t331).f2)).bind fun t333 => (if t333 ≥ 0 then (some t328) else ((api_Item_33.f t328 t331 (wrap64 (t331 + 1))).bind fun t334 => ((api_Item_34__rank_Cmp.f k t334 a2_0 a2_1 a2_2).bind fun bt337 => ((api_Item_35.f t334 bt337.1 (([(⟨a2_0, a2_1, a2_2⟩ : S25)] : List (S25)))).bind fun t342 => (if 0 ≤ (mn (t342.length : Int) (wrap64 (a0 + 1))) then (if (mn (t342.length : Int) (wrap64 (a0 + 1))) ≤ (t342.length : Int) then (some (t342.take ((mn (t342.length : Int) (wrap64 (a0 + 1))) : Int).toNat)) else (none)) else (none))))))) else (none)) else (none)) else ((api_Item_34__rank_Cmp.f k t328 a2_0 a2_1 a2_2).bind fun bt348 => ((api_Item_35.f t328 bt348.1 (([(⟨a2_0, a2_1, a2_2⟩ : S25)] : List (S25)))).bind fun t353 => (if 0 ≤ (mn (t353.length : Int) (wrap64 (a0 + 1))) then (if (mn (t353.length : Int) (wrap64 (a0 + 1))) ≤ (t353.length : Int) then (some (t353.take ((mn (t353.length : Int) (wrap64 (a0 + 1))) : Int).toNat)) else (none)) else (none)))))) = some r := H
  have A4 := Aside0.mk A40
  clear A40
  replace H := Option.bind_eq_some_iff.mp H
  obtain ⟨t331, A50, H⟩ := H
  replace H : (if t331 ≥ 0 then (if 0 ≤ t331 then (if t331 < (t328.length : Int) then ((rank_Cmp.f k a2_0 a2_1 a2_2 ((rd_T25 t328 t331).f0) ((rd_T25 t328 t331).f1) ((rd_T25 t328 t331).f2)).bind fun t333 => (if t333 ≥ 0 then (some t328) else ((api_Item_33.f t328 t331 (wrap64 (t331 + 1))).bind fun t334 => ((api_Item_34__rank_Cmp.f k t334 a2_0 a2_1 a2_2).bind fun bt337 => ((api_Item_35.f t334 bt337.1 (([(⟨a2_0, a2_1, a2_2⟩ : S25)] : List (S25)))).bind fun t342 => (if 0 ≤ (mn (t342.length : Int) (wrap64 (a0 + 1))) then (if (mn (t342.length : Int) (wrap64 (a0 + 1))) ≤ (t342.length : Int) then (some (t342.take ((mn (t342.length : Int) (wrap64 (a0 + 1))) : Int).toNat)) else (none)) else (none))))))) else (none)) else (none)) else ((api_Item_34__rank_Cmp.f k t328 a2_0 a2_1 a2_2).bind fun bt348 => ((api_Item_35.f t328 bt348.1 (([(⟨a2_0, a2_1, a2_2⟩ : S25)] : List (S25)))).bind fun t353 => (if 0 ≤ (mn (t353.length : Int) (wrap64 (a0 + 1))) then (if (mn (t353.length : Int) (wrap64 (a0 + 1))) ≤ (t353.length : Int) then (some (t353.take ((mn (t353.length : Int) (wrap64 (a0 + 1))) : Int).toNat)) else (none)) else (none))))) = some r := H
  have A5 := Aside0.mk A50
  clear A50
  by_cases c6 : t331 ≥ 0
  · rw [if_pos c6] at H
    have c6b0 : decide (0 ≤ t331) = true := decide_eq_true c6
    clear c6
    by_cases c7 : 0 ≤ t331
    · rw [if_pos c7] at H
      have c7b0 : decide (0 ≤ t331) = true := decide_eq_true c7
      clear c7
      by_cases c8 : t331 < (t328.length : Int)
      · rw [if_pos c8] at H
        have c8b0 : decide (t331 < (t328.length : Int)) = true := decide_eq_true c8
        clear c8
        replace H := Option.bind_eq_some_iff.mp H
        obtain ⟨t333, A90, H⟩ := H
        replace H : (if t333 ≥ 0 then (some t328) else ((api_Item_33.f t328 t331 (wrap64 (t331 + 1))).bind fun t334 => ((api_Item_34__rank_Cmp.f k t334 a2_0 a2_1 a2_2).bind fun bt337 => ((api_Item_35.f t334 bt337.1 (([(⟨a2_0, a2_1, a2_2⟩ : S25)] : List (S25)))).bind fun t342 => (if 0 ≤ (mn (t342.length : Int) (wrap64 (a0 + 1))) then (if (mn (t342.length : Int) (wrap64 (a0 + 1))) ≤ (t342.length : Int) then (some (t342.take ((mn (t342.length : Int) (wrap64 (a0 + 1))) : Int).toNat)) else (none)) else (none)))))) = some r := H
        have A9 := Aside0.mk A90
        clear A90
        by_cases c10 : t333 ≥ 0
        · rw [if_pos c10] at H
          have c10b0 : decide (0 ≤ t333) = true := decide_eq_true c10
          clear c10
          obtain rfl := Option.some.inj H
          go_enter Tryd.func18, Tryd.ntmps18
          try go_wp2_with (first | ((with_reducible refine gate_dst (N := 5) rfl ?_); refine box_event ?hg (N := 5) ?hd (cs := #[.string a2_0, .int .u64 a2_1, .int .u64 a2_2]) (t := 25) ?hr ?_; (case hd => rfl); (case hg => rfl); (case hr => first | (go_simp; done) | (go_simp; rfl)); intro gb327 hg w11 hbox hb; have n0_ := Aside0.mk (below_step (by repeat (first | (with_reducible first | exact HB.out | apply below_alloc | apply pw_below_drewN | apply below_drew1) | exact HB.out)) hb); have n1_ := Aside0.mk (hbox); have n2_ := Aside0.mk ((by rw [hg]; exact (below_size (by repeat (first | (with_reducible first | exact HB.out | apply below_alloc | apply pw_below_drewN | apply below_drew1) | exact HB.out))) : w.heap.size ≤ gb327)); have n3_ := Aside0.mk ((by rw [hg]; exact (below_size (by repeat (first | (with_reducible first | exact HB.out | apply below_alloc | apply pw_below_drewN | apply below_drew1) | exact HB.out))) : w.heap.size ≤ gb327)); clear HB; have HB := n0_; have BK327 := n1_; have GW327 := n2_; have GE327 := n3_; clear n0_ n1_ n2_ n3_; clear hb hbox hg) | ((with_reducible refine gate_callee (f := 19) rfl ?_); refine goesL_ (some 12) rfl rfl Tryd.func19 (by kernel_rfl) rfl #[.slice A1 l1.length c1] rfl (by (try simp only [List.map_toArray, List.map_cons, List.map_nil]); first | done | rfl | (simp only [List.length_drop, List.length_take]; rfl)) ?_; (with_reducible refine (api_Item_19.calls _ _ l1 t328 _ ?side1 ?side2 A4.out).mono ?_); (case side1 => repeat (first | exact (Kd.C_below HR1.out HB.out) | (with_reducible refine Kd.C_alloc ?_ _) | (with_reducible refine Kd.C_drewN ?_ _) | (with_reducible refine Kd.C_drew ?_))); (case side2 => exact HC1.out); rintro e w12 ⟨v329, rfl, ho0, hb⟩; refine ⟨_, rfl, ?_⟩; have n0_ := Aside0.mk (Kd.R_lower (Kd.R_newB ho0 (g := gb327) (o := .cells #[.string a2_0, .int .u64 a2_1, .int .u64 a2_2] 25 (0, 0)) (by (with_reducible repeat (first | refine blk_drewN ?_ _ | refine blk_drew ?_ | refine blk_alloc ?_ _)); exact BK327.out)) (below_size (by repeat (first | (with_reducible first | exact HB.out | apply below_alloc | apply pw_below_drewN | apply below_drew1 | refine below_set ?_ GE327.out) | exact HB.out)))); have n1_ := Aside0.mk (blk_below (g := gb327) (o := .cells #[.string a2_0, .int .u64 a2_1, .int .u64 a2_2] 25 (0, 0)) (by (with_reducible repeat (first | refine blk_drewN ?_ _ | refine blk_drew ?_ | refine blk_alloc ?_ _)); exact BK327.out) hb); have n2_ := Aside0.mk (below_step (by repeat (first | (with_reducible first | exact HB.out | apply below_alloc | apply pw_below_drewN | apply below_drew1 | refine below_set ?_ GE327.out) | exact HB.out)) hb); clear BK327; clear HB; have HO330 := n0_; have BK327 := n1_; have HB := n2_; clear n0_ n1_ n2_; (try clear hb); (try clear hb2); (try clear hk); (try clear hi); (try clear ho0); have hcz13_0 : w12.cell? ⟨gb327, 0, none⟩ = some (.string a2_0) := (blk_cell BK327.out 0).trans rfl; have hcz13_1 : w12.cell? ⟨gb327, 1, none⟩ = some (.int .u64 a2_1) := (blk_cell BK327.out 1).trans rfl; have hcz13_2 : w12.cell? ⟨gb327, 2, none⟩ = some (.int .u64 a2_2) := (blk_cell BK327.out 2).trans rfl; have hfz13_0 := blk_frozen BK327.out 0; have hfz13_1 := blk_frozen BK327.out 1; have hfz13_2 := blk_frozen BK327.out 2; obtain ⟨Ao14, co14, eo14⟩ := Kd.R_slice HO330.out; subst eo14) | ((with_reducible refine gate_callee (f := 31) rfl ?_); refine goesL_ (some 15) rfl rfl Tryd.func31 (by kernel_rfl) rfl #[.slice Ao14 t328.length co14, .func (.func 32) #[] #[.pointer (some ⟨gb327, 0, none⟩)]] rfl (by (try simp only [List.map_toArray, List.map_cons, List.map_nil]); first | done | rfl | (simp only [List.length_drop, List.length_take]; rfl)) ?_; (with_reducible refine (slices_IndexFunc_1.calls _ _ t328 a2_0 a2_1 a2_2 t331 _ ?side1 ?side2 gb327 (by (with_reducible repeat (first | refine blk_drewN ?_ _ | refine blk_drew ?_ | refine blk_alloc ?_ _)); exact BK327.out) A5.out).mono ?_); (case side1 => repeat (first | exact (Kd.R_reads' HO330.out).2.2 | (with_reducible refine Kd.C_alloc ?_ _) | (with_reducible refine Kd.C_drewN ?_ _) | (with_reducible refine Kd.C_drew ?_))); (case side2 => exact (Kd.R_reads' HO330.out).2.1); rintro e w15 ⟨rfl, hb⟩; refine ⟨_, rfl, ?_⟩; have n0_ := Aside0.mk (Kd.R_below (by (with_reducible repeat (first | apply Kd.R_alloc | apply Kd.R_drewN | apply Kd.R_drew)); exact HO330.out) hb); have n1_ := Aside0.mk (blk_below (g := gb327) (o := .cells #[.string a2_0, .int .u64 a2_1, .int .u64 a2_2] 25 (0, 0)) (by (with_reducible repeat (first | refine blk_drewN ?_ _ | refine blk_drew ?_ | refine blk_alloc ?_ _)); exact BK327.out) hb); have n2_ := Aside0.mk (below_step (by repeat (first | (with_reducible first | exact HB.out | apply below_alloc | apply pw_below_drewN | apply below_drew1 | refine below_set ?_ GE327.out) | exact HB.out)) hb); clear HO330; clear BK327; clear HB; have HO330 := n0_; have BK327 := n1_; have HB := n2_; clear n0_ n1_ n2_; (try clear hb); (try clear hb2); (try clear hk); (try clear hi)))
          have n0_ := Aside0.mk (Kd.R_drew HO330.out)
          have n1_ := Aside0.mk (blk_drew BK327.out)
          have n2_ := Aside0.mk (below_drew1 HB.out)
          clear HO330
          clear BK327
          clear HB
          have HO330 := n0_
          have BK327 := n1_
          have HB := n2_
          clear n0_ n1_ n2_
          have p332 : 0 ≤ (t331 : Int) := of_decide_eq_true (by first | (with_reducible assumption) | assumption)
          have q332 : t331 < (t328.length : Int) := of_decide_eq_true (by first | (with_reducible assumption) | assumption)
          obtain ⟨ad332, e332, hx332_0, hx332_1, hx332_2⟩ := at_T25 (Kd.R_reads' HO330.out).2.2 t331 p332 q332
          cases e332
          replace p332 := eq_true p332
          replace q332 := eq_true q332
          refine start_ (n := 7) (S := fun w' => w'.cell? ⟨gb327, 0, none⟩ = some (.string a2_0) ∧ w'.cell? ⟨gb327, 1, none⟩ = some (.int .u64 a2_1) ∧ w'.cell? ⟨gb327, 2, none⟩ = some (.int .u64 a2_2) ∧ w'.cell? (ad332.add ((t331).toNat * 3)) = some (.string ((rd_T25 t328 t331).f0)) ∧ w'.cell? ⟨(ad332.add ((t331).toNat * 3)).block, (ad332.add ((t331).toNat * 3)).off + 1, none⟩ = some (.int .u64 ((rd_T25 t328 t331).f1)) ∧ w'.cell? ⟨(ad332.add ((t331).toNat * 3)).block, (ad332.add ((t331).toNat * 3)).off + 2, none⟩ = some (.int .u64 ((rd_T25 t328 t331).f2))) (ds := []) #[false, false, false, false, false, false, false] (by kernel_rfl) rfl rfl ⟨(blk_cell BK327.out 0).trans rfl, (blk_cell BK327.out 1).trans rfl, (blk_cell BK327.out 2).trans rfl, hx332_0, hx332_1, hx332_2⟩ (fun hHeld => ?_)
          generalize w15.drew = w16 at HO330 BK327 HB hx332_0 hx332_1 hx332_2 hHeld ⊢
          refine pure_ (i := 1) (N := some 19) (v := ?_) (a' := ?_) #[false, true, false, false, false, false, false] rfl rfl (by kernel_rfl) (fun _ _ _ h => h) (Or.inl ⟨by rfl, ?_⟩) ?_ ?_
          rotate_left
          · intro w'
            go_simp
            with_reducible rfl
          rotate_left
          · simp only [Act.put, List.setIfInBounds_toArray, List.set_cons_zero, List.set_cons_succ, i64_w, i32_w]
            rfl
          refine pure_ (i := 2) (N := some 20) (v := ?_) (a' := ?_) #[false, true, true, false, false, false, false] rfl rfl (by kernel_rfl) (fun _ _ _ h => h) (Or.inl ⟨by rfl, ?_⟩) ?_ ?_
          rotate_left
          · intro w'
            go_simp
            with_reducible rfl
          rotate_left
          · simp only [Act.put, List.setIfInBounds_toArray, List.set_cons_zero, List.set_cons_succ, i64_w, i32_w]
            rfl
          refine pure_ (i := 3) (N := some 21) (v := ?_) (a' := ?_) #[false, true, true, true, false, false, false] rfl rfl (by kernel_rfl) (fun _ _ _ h => h) (Or.inl ⟨by rfl, ?_⟩) ?_ ?_
          rotate_left
          · intro w'
            go_simp
            with_reducible rfl
          rotate_left
          · simp only [Act.put, List.setIfInBounds_toArray, List.set_cons_zero, List.set_cons_succ, i64_w, i32_w]
            rfl
          refine take_ (i := 0) (N := some 18) (v := ?_) (a' := ?_) #[true, true, true, true, false, false, false] rfl rfl (by kernel_rfl) (fun _ _ _ h => h) (Or.inl ⟨by rfl, ?_⟩) hHeld ?_ ?_
          rotate_left
          · rintro w' ⟨s0, s1, s2, s3, s4, s5⟩
            go_simp
            with_reducible rfl
          rotate_left
          · simp only [Act.put, List.setIfInBounds_toArray, List.set_cons_zero, List.set_cons_succ, i64_w, i32_w]
            rfl
          refine take_ (i := 4) (N := some 22) (v := ?_) (a' := ?_) #[true, true, true, true, true, false, false] rfl rfl (by kernel_rfl) (fun _ _ _ h => h) (Or.inl ⟨by rfl, ?_⟩) hHeld ?_ ?_
          rotate_left
          · rintro w' ⟨s0, s1, s2, s3, s4, s5⟩
            go_simp
            with_reducible rfl
          rotate_left
          · simp only [Act.put, List.setIfInBounds_toArray, List.set_cons_zero, List.set_cons_succ, i64_w, i32_w]
            rfl
          refine one_ (i := 5) (N := some 23) #[true, true, true, true, true, true, false] rfl rfl (by kernel_rfl) (by decide) (fun K hK => ?_)
          refine goes_ Tryd.func14 (by kernel_rfl) rfl #[.agg #[.string a2_0, .int .u64 a2_1, .int .u64 a2_2], .agg #[.string ((rd_T25 t328 t331).f0), .int .u64 ((rd_T25 t328 t331).f1), .int .u64 ((rd_T25 t328 t331).f2)]] (by rfl) rfl rfl (by (try simp only [List.map_toArray, List.map_cons, List.map_nil]); first | done | rfl | (simp only [List.length_drop, List.length_take]; rfl)) ?_
          with_reducible refine (rank_Cmp.calls k a2_0 a2_1 a2_2 ((rd_T25 t328 t331).f0) ((rd_T25 t328 t331).f1) ((rd_T25 t328 t331).f2) t333 _ A9.out).mono ?_
          rintro e w17 ⟨rfl, hb⟩
          have HS3_ := (hb.cell (World.block_lt_of_cell? _ _ (hHeld.2.2.2.1))).trans (hHeld.2.2.2.1)
          have HS4_ := (hb.cell (World.block_lt_of_cell? _ _ (hHeld.2.2.2.2.1))).trans (hHeld.2.2.2.2.1)
          have HS5_ := (hb.cell (World.block_lt_of_cell? _ _ (hHeld.2.2.2.2.2))).trans (hHeld.2.2.2.2.2)
          refine ⟨_, rfl, ?_⟩
          have n0_ := Aside0.mk (Kd.R_below (by (with_reducible repeat (first | apply Kd.R_alloc | apply Kd.R_drewN | apply Kd.R_drew)); exact HO330.out) hb)
          have n1_ := Aside0.mk (blk_below (g := gb327) (o := .cells #[.string a2_0, .int .u64 a2_1, .int .u64 a2_2] 25 (0, 0)) (by (with_reducible repeat (first | refine blk_drewN ?_ _ | refine blk_drew ?_ | refine blk_alloc ?_ _)); exact BK327.out) hb)
          have n2_ := Aside0.mk (below_step (by repeat (first | (with_reducible first | exact HB.out | apply below_alloc | apply pw_below_drewN | apply below_drew1 | refine below_set ?_ GE327.out) | exact HB.out)) hb)
          clear HO330
          clear BK327
          clear HB
          have HO330 := n0_
          have BK327 := n1_
          have HB := n2_
          clear n0_ n1_ n2_
          (try clear hb)
          (try clear hb2)
          (try clear hk)
          (try clear hi)
          refine hK.out _ _ ⟨(blk_cell BK327.out 0).trans rfl, (blk_cell BK327.out 1).trans rfl, (blk_cell BK327.out 2).trans rfl, HS3_, HS4_, HS5_⟩ (fun hHeld => ?_)
          clear hK K
          refine norm_ (a' := ?_) ?_ ?_
          rotate_left
          · show Act.put _ (some 23) _ = _
            simp only [Act.put, List.setIfInBounds_toArray, List.set_cons_zero, List.set_cons_succ, i64_w, i32_w]
            rfl
          refine pure_ (i := 6) (N := some 24) (v := ?_) (a' := ?_) #[true, true, true, true, true, true, true] rfl rfl (by kernel_rfl) (fun _ _ _ h => h) (Or.inl ⟨by rfl, ?_⟩) ?_ ?_
          rotate_left
          · intro w'
            go_simp
            with_reducible rfl
          rotate_left
          · simp only [Act.put, List.setIfInBounds_toArray, List.set_cons_zero, List.set_cons_succ, i64_w, i32_w]
            rfl
          refine done_ (by kernel_rfl) ?_
          try go_wp2
          go_ret
          exact ⟨_, by first | rfl | (simp [errW_none, errW_some] <;> rfl) | (simp [*, errW_none, errW_some] <;> rfl), by (with_reducible repeat (first | apply Kd.R_alloc | apply Kd.R_drewN | apply Kd.R_drew)); exact Kd.R_mono HO330.out (fun _ hk => trivial), by repeat (first | (with_reducible first | exact HB.out | apply below_alloc | apply pw_below_drewN | apply below_drew1 | refine below_set ?_ GE327.out) | exact HB.out)⟩
        · rw [if_neg c10] at H
          have c10b0 : decide (0 ≤ t333) = false := decide_eq_false c10
          clear c10
          replace H := Option.bind_eq_some_iff.mp H
          obtain ⟨t334, A180, H⟩ := H
          replace H : ((api_Item_34__rank_Cmp.f k t334 a2_0 a2_1 a2_2).bind fun bt337 => ((api_Item_35.f t334 bt337.1 (([(⟨a2_0, a2_1, a2_2⟩ : S25)] : List (S25)))).bind fun t342 => (if 0 ≤ (mn (t342.length : Int) (wrap64 (a0 + 1))) then (if (mn (t342.length : Int) (wrap64 (a0 + 1))) ≤ (t342.length : Int) then (some (t342.take ((mn (t342.length : Int) (wrap64 (a0 + 1))) : Int).toNat)) else (none)) else (none)))) = some r := H
          have A18 := Aside0.mk A180
          clear A180
          replace H := Option.bind_eq_some_iff.mp H
          obtain ⟨⟨t337, t338⟩, A190, H⟩ := H
          replace H : ((api_Item_35.f t334 t337 (([(⟨a2_0, a2_1, a2_2⟩ : S25)] : List (S25)))).bind fun t342 => (if 0 ≤ (mn (t342.length : Int) (wrap64 (a0 + 1))) then (if (mn (t342.length : Int) (wrap64 (a0 + 1))) ≤ (t342.length : Int) then (some (t342.take ((mn (t342.length : Int) (wrap64 (a0 + 1))) : Int).toNat)) else (none)) else (none))) = some r := H
          have A19 := Aside0.mk A190
          clear A190
          obtain ⟨y339, hy339⟩ : ∃ y_ : List (S25), y_ = (([(⟨a2_0, a2_1, a2_2⟩ : S25)] : List (S25))) := ⟨_, rfl⟩
          replace H : ((api_Item_35.f t334 t337 y339).bind fun t342 => (if 0 ≤ (mn (t342.length : Int) (wrap64 (a0 + 1))) then (if (mn (t342.length : Int) (wrap64 (a0 + 1))) ≤ (t342.length : Int) then (some (t342.take ((mn (t342.length : Int) (wrap64 (a0 + 1))) : Int).toNat)) else (none)) else (none))) = some r := by first | (rw [hy339]; with_reducible exact H) | (have H2_ := (Option.bind_some _ _).symm.trans H; rw [hy339]; with_reducible exact H2_) | (have H2_ := (Option.bind_some _ _).symm.trans H; with_reducible exact H2_) | with_reducible exact H | (rw [hy339]; exact H) | exact H
          have Ny339 := Aside0.mk hy339
          clear hy339
          replace H := Option.bind_eq_some_iff.mp H
          obtain ⟨t342, A200, H⟩ := H
          replace H : (if 0 ≤ (mn (t342.length : Int) (wrap64 (a0 + 1))) then (if (mn (t342.length : Int) (wrap64 (a0 + 1))) ≤ (t342.length : Int) then (some (t342.take ((mn (t342.length : Int) (wrap64 (a0 + 1))) : Int).toNat)) else (none)) else (none)) = some r := H
          have A20 := Aside0.mk A200
          clear A200
          obtain ⟨ji21, hji21⟩ : ∃ j_ : Int, (mn (t342.length : Int) (wrap64 (a0 + 1))) = j_ := ⟨_, rfl⟩
          replace H : (if 0 ≤ (ji21) then (if (ji21) ≤ (t342.length : Int) then (some (t342.take ((ji21) : Int).toNat)) else (none)) else (none)) = some r := by first | (rw [hji21] at H; exact H) | (simp only [hji21] at H ⊢; exact H)
          (try rw [hji21] at A4)
          (try rw [hji21] at A5)
          (try rw [hji21] at A9)
          (try rw [hji21] at A18)
          (try rw [hji21] at A19)
          (try rw [hji21] at A20)
          have hji21_ : (if (wrap64 (a0 + 1)) < (t342.length : Int) then (wrap64 (a0 + 1)) else (t342.length : Int)) = ji21 := hji21
          by_cases c22 : 0 ≤ (ji21)
          · rw [if_pos c22] at H
            have c22b0 := eq_true c22
            have c22b1 : decide (0 ≤ (ji21)) = true := decide_eq_true c22
            clear c22
            by_cases c23 : (ji21) ≤ (t342.length : Int)
            · rw [if_pos c23] at H
              have c23b0 := eq_true c23
              have c23b1 : decide ((ji21) ≤ (t342.length : Int)) = true := decide_eq_true c23
              clear c23
              obtain ⟨y345, hy345⟩ : ∃ y_ : List (S25), y_ = (t342.take ((ji21) : Int).toNat) := ⟨_, rfl⟩
              replace H : (some y345) = some r := by first | (rw [hy345]; with_reducible exact H) | (have H2_ := (Option.bind_some _ _).symm.trans H; rw [hy345]; with_reducible exact H2_) | (have H2_ := (Option.bind_some _ _).symm.trans H; with_reducible exact H2_) | with_reducible exact H | (rw [hy345]; exact H) | exact H
              have Ny345 := Aside0.mk hy345
              clear hy345
              obtain rfl := Option.some.inj H
              go_enter Tryd.func18, Tryd.ntmps18
              try go_wp2_with (first | ((with_reducible refine gate_dst (N := 5) rfl ?_); refine box_event ?hg (N := 5) ?hd (cs := #[.string a2_0, .int .u64 a2_1, .int .u64 a2_2]) (t := 25) ?hr ?_; (case hd => rfl); (case hg => rfl); (case hr => first | (go_simp; done) | (go_simp; rfl)); intro gb327 hg w24 hbox hb; have n0_ := Aside0.mk (below_step (by repeat (first | (with_reducible first | exact HB.out | apply below_alloc | apply pw_below_drewN | apply below_drew1) | exact HB.out)) hb); have n1_ := Aside0.mk (hbox); have n2_ := Aside0.mk ((by rw [hg]; exact (below_size (by repeat (first | (with_reducible first | exact HB.out | apply below_alloc | apply pw_below_drewN | apply below_drew1) | exact HB.out))) : w.heap.size ≤ gb327)); have n3_ := Aside0.mk ((by rw [hg]; exact (below_size (by repeat (first | (with_reducible first | exact HB.out | apply below_alloc | apply pw_below_drewN | apply below_drew1) | exact HB.out))) : w.heap.size ≤ gb327)); clear HB; have HB := n0_; have BK327 := n1_; have GW327 := n2_; have GE327 := n3_; clear n0_ n1_ n2_ n3_; clear hb hbox hg) | ((with_reducible refine gate_callee (f := 19) rfl ?_); refine goesL_ (some 12) rfl rfl Tryd.func19 (by kernel_rfl) rfl #[.slice A1 l1.length c1] rfl (by (try simp only [List.map_toArray, List.map_cons, List.map_nil]); first | done | rfl | (simp only [List.length_drop, List.length_take]; rfl)) ?_; (with_reducible refine (api_Item_19.calls _ _ l1 t328 _ ?side1 ?side2 A4.out).mono ?_); (case side1 => repeat (first | exact (Kd.C_below HR1.out HB.out) | (with_reducible refine Kd.C_alloc ?_ _) | (with_reducible refine Kd.C_drewN ?_ _) | (with_reducible refine Kd.C_drew ?_))); (case side2 => exact HC1.out); rintro e w25 ⟨v329, rfl, ho0, hb⟩; refine ⟨_, rfl, ?_⟩; have n0_ := Aside0.mk (Kd.R_lower (Kd.R_newB ho0 (g := gb327) (o := .cells #[.string a2_0, .int .u64 a2_1, .int .u64 a2_2] 25 (0, 0)) (by (with_reducible repeat (first | refine blk_drewN ?_ _ | refine blk_drew ?_ | refine blk_alloc ?_ _)); exact BK327.out)) (below_size (by repeat (first | (with_reducible first | exact HB.out | apply below_alloc | apply pw_below_drewN | apply below_drew1 | refine below_set ?_ GE327.out) | exact HB.out)))); have n1_ := Aside0.mk (blk_below (g := gb327) (o := .cells #[.string a2_0, .int .u64 a2_1, .int .u64 a2_2] 25 (0, 0)) (by (with_reducible repeat (first | refine blk_drewN ?_ _ | refine blk_drew ?_ | refine blk_alloc ?_ _)); exact BK327.out) hb); have n2_ := Aside0.mk (below_step (by repeat (first | (with_reducible first | exact HB.out | apply below_alloc | apply pw_below_drewN | apply below_drew1 | refine below_set ?_ GE327.out) | exact HB.out)) hb); clear BK327; clear HB; have HO330 := n0_; have BK327 := n1_; have HB := n2_; clear n0_ n1_ n2_; (try clear hb); (try clear hb2); (try clear hk); (try clear hi); (try clear ho0); have hcz26_0 : w25.cell? ⟨gb327, 0, none⟩ = some (.string a2_0) := (blk_cell BK327.out 0).trans rfl; have hcz26_1 : w25.cell? ⟨gb327, 1, none⟩ = some (.int .u64 a2_1) := (blk_cell BK327.out 1).trans rfl; have hcz26_2 : w25.cell? ⟨gb327, 2, none⟩ = some (.int .u64 a2_2) := (blk_cell BK327.out 2).trans rfl; have hfz26_0 := blk_frozen BK327.out 0; have hfz26_1 := blk_frozen BK327.out 1; have hfz26_2 := blk_frozen BK327.out 2; obtain ⟨Ao27, co27, eo27⟩ := Kd.R_slice HO330.out; subst eo27) | ((with_reducible refine gate_callee (f := 31) rfl ?_); refine goesL_ (some 15) rfl rfl Tryd.func31 (by kernel_rfl) rfl #[.slice Ao27 t328.length co27, .func (.func 32) #[] #[.pointer (some ⟨gb327, 0, none⟩)]] rfl (by (try simp only [List.map_toArray, List.map_cons, List.map_nil]); first | done | rfl | (simp only [List.length_drop, List.length_take]; rfl)) ?_; (with_reducible refine (slices_IndexFunc_1.calls _ _ t328 a2_0 a2_1 a2_2 t331 _ ?side1 ?side2 gb327 (by (with_reducible repeat (first | refine blk_drewN ?_ _ | refine blk_drew ?_ | refine blk_alloc ?_ _)); exact BK327.out) A5.out).mono ?_); (case side1 => repeat (first | exact (Kd.R_reads' HO330.out).2.2 | (with_reducible refine Kd.C_alloc ?_ _) | (with_reducible refine Kd.C_drewN ?_ _) | (with_reducible refine Kd.C_drew ?_))); (case side2 => exact (Kd.R_reads' HO330.out).2.1); rintro e w28 ⟨rfl, hb⟩; refine ⟨_, rfl, ?_⟩; have n0_ := Aside0.mk (Kd.R_below (by (with_reducible repeat (first | apply Kd.R_alloc | apply Kd.R_drewN | apply Kd.R_drew)); exact HO330.out) hb); have n1_ := Aside0.mk (blk_below (g := gb327) (o := .cells #[.string a2_0, .int .u64 a2_1, .int .u64 a2_2] 25 (0, 0)) (by (with_reducible repeat (first | refine blk_drewN ?_ _ | refine blk_drew ?_ | refine blk_alloc ?_ _)); exact BK327.out) hb); have n2_ := Aside0.mk (below_step (by repeat (first | (with_reducible first | exact HB.out | apply below_alloc | apply pw_below_drewN | apply below_drew1 | refine below_set ?_ GE327.out) | exact HB.out)) hb); clear HO330; clear BK327; clear HB; have HO330 := n0_; have BK327 := n1_; have HB := n2_; clear n0_ n1_ n2_; (try clear hb); (try clear hb2); (try clear hk); (try clear hi)))
              have n0_ := Aside0.mk (Kd.R_drew HO330.out)
              have n1_ := Aside0.mk (blk_drew BK327.out)
              have n2_ := Aside0.mk (below_drew1 HB.out)
              clear HO330
              clear BK327
              clear HB
              have HO330 := n0_
              have BK327 := n1_
              have HB := n2_
              clear n0_ n1_ n2_
              have p332 : 0 ≤ (t331 : Int) := of_decide_eq_true (by first | (with_reducible assumption) | assumption)
              have q332 : t331 < (t328.length : Int) := of_decide_eq_true (by first | (with_reducible assumption) | assumption)
              obtain ⟨ad332, e332, hx332_0, hx332_1, hx332_2⟩ := at_T25 (Kd.R_reads' HO330.out).2.2 t331 p332 q332
              cases e332
              replace p332 := eq_true p332
              replace q332 := eq_true q332
              refine start_ (n := 7) (S := fun w' => w'.cell? ⟨gb327, 0, none⟩ = some (.string a2_0) ∧ w'.cell? ⟨gb327, 1, none⟩ = some (.int .u64 a2_1) ∧ w'.cell? ⟨gb327, 2, none⟩ = some (.int .u64 a2_2) ∧ w'.cell? (ad332.add ((t331).toNat * 3)) = some (.string ((rd_T25 t328 t331).f0)) ∧ w'.cell? ⟨(ad332.add ((t331).toNat * 3)).block, (ad332.add ((t331).toNat * 3)).off + 1, none⟩ = some (.int .u64 ((rd_T25 t328 t331).f1)) ∧ w'.cell? ⟨(ad332.add ((t331).toNat * 3)).block, (ad332.add ((t331).toNat * 3)).off + 2, none⟩ = some (.int .u64 ((rd_T25 t328 t331).f2))) (ds := []) #[false, false, false, false, false, false, false] (by kernel_rfl) rfl rfl ⟨(blk_cell BK327.out 0).trans rfl, (blk_cell BK327.out 1).trans rfl, (blk_cell BK327.out 2).trans rfl, hx332_0, hx332_1, hx332_2⟩ (fun hHeld => ?_)
              generalize w28.drew = w29 at HO330 BK327 HB hx332_0 hx332_1 hx332_2 hHeld ⊢
              refine pure_ (i := 1) (N := some 19) (v := ?_) (a' := ?_) #[false, true, false, false, false, false, false] rfl rfl (by kernel_rfl) (fun _ _ _ h => h) (Or.inl ⟨by rfl, ?_⟩) ?_ ?_
              rotate_left
              · intro w'
                go_simp
                with_reducible rfl
              rotate_left
              · simp only [Act.put, List.setIfInBounds_toArray, List.set_cons_zero, List.set_cons_succ, i64_w, i32_w]
                rfl
              refine pure_ (i := 2) (N := some 20) (v := ?_) (a' := ?_) #[false, true, true, false, false, false, false] rfl rfl (by kernel_rfl) (fun _ _ _ h => h) (Or.inl ⟨by rfl, ?_⟩) ?_ ?_
              rotate_left
              · intro w'
                go_simp
                with_reducible rfl
              rotate_left
              · simp only [Act.put, List.setIfInBounds_toArray, List.set_cons_zero, List.set_cons_succ, i64_w, i32_w]
                rfl
              refine pure_ (i := 3) (N := some 21) (v := ?_) (a' := ?_) #[false, true, true, true, false, false, false] rfl rfl (by kernel_rfl) (fun _ _ _ h => h) (Or.inl ⟨by rfl, ?_⟩) ?_ ?_
              rotate_left
              · intro w'
                go_simp
                with_reducible rfl
              rotate_left
              · simp only [Act.put, List.setIfInBounds_toArray, List.set_cons_zero, List.set_cons_succ, i64_w, i32_w]
                rfl
              refine take_ (i := 0) (N := some 18) (v := ?_) (a' := ?_) #[true, true, true, true, false, false, false] rfl rfl (by kernel_rfl) (fun _ _ _ h => h) (Or.inl ⟨by rfl, ?_⟩) hHeld ?_ ?_
              rotate_left
              · rintro w' ⟨s0, s1, s2, s3, s4, s5⟩
                go_simp
                with_reducible rfl
              rotate_left
              · simp only [Act.put, List.setIfInBounds_toArray, List.set_cons_zero, List.set_cons_succ, i64_w, i32_w]
                rfl
              refine take_ (i := 4) (N := some 22) (v := ?_) (a' := ?_) #[true, true, true, true, true, false, false] rfl rfl (by kernel_rfl) (fun _ _ _ h => h) (Or.inl ⟨by rfl, ?_⟩) hHeld ?_ ?_
              rotate_left
              · rintro w' ⟨s0, s1, s2, s3, s4, s5⟩
                go_simp
                with_reducible rfl
              rotate_left
              · simp only [Act.put, List.setIfInBounds_toArray, List.set_cons_zero, List.set_cons_succ, i64_w, i32_w]
                rfl
              refine one_ (i := 5) (N := some 23) #[true, true, true, true, true, true, false] rfl rfl (by kernel_rfl) (by decide) (fun K hK => ?_)
              refine goes_ Tryd.func14 (by kernel_rfl) rfl #[.agg #[.string a2_0, .int .u64 a2_1, .int .u64 a2_2], .agg #[.string ((rd_T25 t328 t331).f0), .int .u64 ((rd_T25 t328 t331).f1), .int .u64 ((rd_T25 t328 t331).f2)]] (by rfl) rfl rfl (by (try simp only [List.map_toArray, List.map_cons, List.map_nil]); first | done | rfl | (simp only [List.length_drop, List.length_take]; rfl)) ?_
              with_reducible refine (rank_Cmp.calls k a2_0 a2_1 a2_2 ((rd_T25 t328 t331).f0) ((rd_T25 t328 t331).f1) ((rd_T25 t328 t331).f2) t333 _ A9.out).mono ?_
              rintro e w30 ⟨rfl, hb⟩
              have HS3_ := (hb.cell (World.block_lt_of_cell? _ _ (hHeld.2.2.2.1))).trans (hHeld.2.2.2.1)
              have HS4_ := (hb.cell (World.block_lt_of_cell? _ _ (hHeld.2.2.2.2.1))).trans (hHeld.2.2.2.2.1)
              have HS5_ := (hb.cell (World.block_lt_of_cell? _ _ (hHeld.2.2.2.2.2))).trans (hHeld.2.2.2.2.2)
              refine ⟨_, rfl, ?_⟩
              have n0_ := Aside0.mk (Kd.R_below (by (with_reducible repeat (first | apply Kd.R_alloc | apply Kd.R_drewN | apply Kd.R_drew)); exact HO330.out) hb)
              have n1_ := Aside0.mk (blk_below (g := gb327) (o := .cells #[.string a2_0, .int .u64 a2_1, .int .u64 a2_2] 25 (0, 0)) (by (with_reducible repeat (first | refine blk_drewN ?_ _ | refine blk_drew ?_ | refine blk_alloc ?_ _)); exact BK327.out) hb)
              have n2_ := Aside0.mk (below_step (by repeat (first | (with_reducible first | exact HB.out | apply below_alloc | apply pw_below_drewN | apply below_drew1 | refine below_set ?_ GE327.out) | exact HB.out)) hb)
              clear HO330
              clear BK327
              clear HB
              have HO330 := n0_
              have BK327 := n1_
              have HB := n2_
              clear n0_ n1_ n2_
              (try clear hb)
              (try clear hb2)
              (try clear hk)
              (try clear hi)
              refine hK.out _ _ ⟨(blk_cell BK327.out 0).trans rfl, (blk_cell BK327.out 1).trans rfl, (blk_cell BK327.out 2).trans rfl, HS3_, HS4_, HS5_⟩ (fun hHeld => ?_)
              clear hK K
              refine norm_ (a' := ?_) ?_ ?_
              rotate_left
              · show Act.put _ (some 23) _ = _
                simp only [Act.put, List.setIfInBounds_toArray, List.set_cons_zero, List.set_cons_succ, i64_w, i32_w]
                rfl
              refine pure_ (i := 6) (N := some 24) (v := ?_) (a' := ?_) #[true, true, true, true, true, true, true] rfl rfl (by kernel_rfl) (fun _ _ _ h => h) (Or.inl ⟨by rfl, ?_⟩) ?_ ?_
              rotate_left
              · intro w'
                go_simp
                with_reducible rfl
              rotate_left
              · simp only [Act.put, List.setIfInBounds_toArray, List.set_cons_zero, List.set_cons_succ, i64_w, i32_w]
                rfl
              refine done_ (by kernel_rfl) ?_
              try go_wp2_with (first | ((with_reducible refine gate_callee (f := 33) rfl ?_); refine goesL_ (some 30) rfl rfl Tryd.func33 (by kernel_rfl) rfl #[.slice (some ad332) t328.length co27, .int .i64 t331, .int .i64 (wrap64 (t331 + 1))] rfl (by (try simp only [List.map_toArray, List.map_cons, List.map_nil]); first | done | rfl | (simp only [List.length_drop, List.length_take]; rfl)) ?_; (with_reducible refine (api_Item_33.calls (fun k_ => some k_ = (.slice (some ad332) t328.length co27 : Value).ownBlock) (.slice (some ad332) t328.length co27) t328 t331 (wrap64 (t331 + 1)) t334 w _ ?side1 ?side2 A18.out).mono ?_); (case side1 => repeat (first | (with_reducible first | exact HB.out | apply below_alloc | apply pw_below_drewN | apply below_drew1 | refine below_set ?_ GE327.out) | exact HB.out)); (case side2 => exact Kd.R_tight rfl HO330.out); rintro e w31 ⟨v335, rfl, ho0, hb, hkp⟩; refine ⟨_, rfl, ?_⟩; have n0_ := Aside0.mk (blk_kept (by (with_reducible repeat (first | refine blk_drewN ?_ _ | refine blk_drew ?_ | refine blk_alloc ?_ _)); exact BK327.out) hkp (fun hs_ => (fun e_ => (Kd.R_away HO330.out (fun _ hk => hk.2)) e_) hs_)); have n1_ := Aside0.mk (Kd.R_mono (ok' := fun k_ => k_ ≠ gb327) ho0 (fun k_ hk_ => Or.elim hk_ (fun hs_ => fun e_ => (Kd.R_away HO330.out (fun _ hk => hk.2)) (by rw [← e_]; exact hs_)) (fun hn_ => (Kd.freshB (g := gb327) (o := .cells #[.string a2_0, .int .u64 a2_1, .int .u64 a2_2] 25 (0, 0)) (by (with_reducible repeat (first | refine blk_drewN ?_ _ | refine blk_drew ?_ | refine blk_alloc ?_ _)); exact BK327.out) k_ hn_)))); have n2_ := Aside0.mk (hb); clear BK327; clear HB; clear HO330; have BK327 := n0_; have HO336 := n1_; have HB := n2_; clear n0_ n1_ n2_; (try clear hb); (try clear hkp); (try clear ho0); have hcz32_0 : w31.cell? ⟨gb327, 0, none⟩ = some (.string a2_0) := (blk_cell BK327.out 0).trans rfl; have hcz32_1 : w31.cell? ⟨gb327, 1, none⟩ = some (.int .u64 a2_1) := (blk_cell BK327.out 1).trans rfl; have hcz32_2 : w31.cell? ⟨gb327, 2, none⟩ = some (.int .u64 a2_2) := (blk_cell BK327.out 2).trans rfl; have hfz32_0 := blk_frozen BK327.out 0; have hfz32_1 := blk_frozen BK327.out 1; have hfz32_2 := blk_frozen BK327.out 2; obtain ⟨Ao33, co33, eo33⟩ := Kd.R_slice HO336.out; subst eo33) | ((with_reducible refine gate_callee (f := 34) rfl ?_); refine goesL_ (some 34) rfl rfl Tryd.func34 (by kernel_rfl) rfl #[.slice Ao33 t334.length co33, .agg #[.string a2_0, .int .u64 a2_1, .int .u64 a2_2], .func (.func 14) #[] #[]] rfl (by (try simp only [List.map_toArray, List.map_cons, List.map_nil]); first | done | rfl | (simp only [List.length_drop, List.length_take]; rfl)) ?_; (with_reducible refine (api_Item_34__rank_Cmp.calls k _ _ t334 a2_0 a2_1 a2_2 t337 t338 _ ?side1 ?side2 A19.out).mono ?_); (case side1 => repeat (first | exact (Kd.R_reads' HO336.out).2.2 | (with_reducible refine Kd.C_alloc ?_ _) | (with_reducible refine Kd.C_drewN ?_ _) | (with_reducible refine Kd.C_drew ?_))); (case side2 => exact (Kd.R_reads' HO336.out).2.1); rintro e w34 ⟨rfl, hb⟩; refine ⟨_, rfl, ?_⟩; have n0_ := Aside0.mk (Kd.R_below (by (with_reducible repeat (first | apply Kd.R_alloc | apply Kd.R_drewN | apply Kd.R_drew)); exact HO336.out) hb); have n1_ := Aside0.mk (blk_below (g := gb327) (o := .cells #[.string a2_0, .int .u64 a2_1, .int .u64 a2_2] 25 (0, 0)) (by (with_reducible repeat (first | refine blk_drewN ?_ _ | refine blk_drew ?_ | refine blk_alloc ?_ _)); exact BK327.out) hb); have n2_ := Aside0.mk (below_step (by repeat (first | (with_reducible first | exact HB.out | apply below_alloc | apply pw_below_drewN | apply below_drew1 | refine below_set ?_ GE327.out) | exact HB.out)) hb); clear HO336; clear BK327; clear HB; have HO336 := n0_; have BK327 := n1_; have HB := n2_; clear n0_ n1_ n2_; (try clear hb); (try clear hb2); (try clear hk); (try clear hi); have hcz35_0 : w34.cell? ⟨gb327, 0, none⟩ = some (.string a2_0) := (blk_cell BK327.out 0).trans rfl; have hcz35_1 : w34.cell? ⟨gb327, 1, none⟩ = some (.int .u64 a2_1) := (blk_cell BK327.out 1).trans rfl; have hcz35_2 : w34.cell? ⟨gb327, 2, none⟩ = some (.int .u64 a2_2) := (blk_cell BK327.out 2).trans rfl; have hfz35_0 := blk_frozen BK327.out 0; have hfz35_1 := blk_frozen BK327.out 1; have hfz35_2 := blk_frozen BK327.out 2) | ((with_reducible refine gate_dst (N := 40) rfl ?_); refine Kd.R_lit k25 _ 25 ?hg (N := 40) ?hd (xs := ([(⟨a2_0, a2_1, a2_2⟩ : S25)] : List (S25))) (inner := [.string a2_0, .int .u64 a2_1, .int .u64 a2_2]) (ok := fun _ => True) (okp := fun _ => True) ?hr ?hp (fun _ hk => hk) trivial (Below.refl _ _) (Nat.le_refl _) (by simp) ?_; (case hd => rfl); (case hg => rfl); (case hr => first | (go_simp; done) | (go_simp; rfl)); (case hp => exact (Reps.c3 (show Kd.M k25 _ _ _ (⟨a2_0, a2_1, a2_2⟩ : S25) [.string a2_0, .int .u64 a2_1, .int .u64 a2_2] from (k25_mkM _ _ _ (⟨a2_0, a2_1, a2_2⟩ : S25) )) (Reps.none _ _))); intro v340 w36 ho37 hb hg_ hnew_; clear hg_ hnew_; (first | rw [← Ny339.out] at ho37 | (simp only [Int.reduceToNat] at ho37; rw [← Ny339.out] at ho37)); have n0_ := Aside0.mk (Kd.R_elder' (by (with_reducible repeat (first | apply Kd.R_alloc | apply Kd.R_drewN | apply Kd.R_drew)); exact HO336.out) (Kd.R_base ho37) hb); have n1_ := Aside0.mk (Kd.R_lower (Kd.R_newB (Kd.R_new' ho37 (Kd.R_lt (by (with_reducible repeat (first | apply Kd.R_alloc | apply Kd.R_drewN | apply Kd.R_drew)); exact HO336.out))) (g := gb327) (o := .cells #[.string a2_0, .int .u64 a2_1, .int .u64 a2_2] 25 (0, 0)) (by (with_reducible repeat (first | refine blk_drewN ?_ _ | refine blk_drew ?_ | refine blk_alloc ?_ _)); exact BK327.out)) (below_size (by repeat (first | (with_reducible first | exact HB.out | apply below_alloc | apply pw_below_drewN | apply below_drew1 | refine below_set ?_ GE327.out) | exact HB.out)))); have n2_ := Aside0.mk (blk_below (g := gb327) (o := .cells #[.string a2_0, .int .u64 a2_1, .int .u64 a2_2] 25 (0, 0)) (by (with_reducible repeat (first | refine blk_drewN ?_ _ | refine blk_drew ?_ | refine blk_alloc ?_ _)); exact BK327.out) hb); have n3_ := Aside0.mk (below_step (by repeat (first | (with_reducible first | exact HB.out | apply below_alloc | apply pw_below_drewN | apply below_drew1 | refine below_set ?_ GE327.out) | exact HB.out)) hb); clear HO336; clear BK327; clear HB; have HO336 := n0_; have HO341 := n1_; have BK327 := n2_; have HB := n3_; clear n0_ n1_ n2_ n3_; clear hb ho37; obtain ⟨Ao38, co38, eo38⟩ := Kd.R_slice HO341.out; subst eo38) | ((with_reducible refine gate_callee (f := 35) rfl ?_); refine goesL_ (some 41) rfl rfl Tryd.func35 (by kernel_rfl) rfl #[.slice Ao33 t334.length co33, .int .i64 t337, .slice Ao38 y339.length co38] rfl (by (try simp only [List.map_toArray, List.map_cons, List.map_nil]); first | done | rfl | (simp only [List.length_drop, List.length_take]; rfl)) ?_; (with_reducible refine (api_Item_35.calls (fun k_ => some k_ = (.slice Ao33 t334.length co33 : Value).ownBlock) (.slice Ao33 t334.length co33) t334 t337 (fun k_ => some k_ = (.slice Ao38 y339.length co38 : Value).ownBlock) (.slice Ao38 y339.length co38) y339 t342 w _ ?side1 ?side2 ?side3 ?side4 ?side5 A20.out).mono ?_); (case side1 => repeat (first | (with_reducible first | exact HB.out | apply below_alloc | apply pw_below_drewN | apply below_drew1 | refine below_set ?_ GE327.out) | exact HB.out)); (case side2 => exact Kd.R_tight rfl HO336.out); (case side3 => exact fun k_ e_ => (HO336.out.1 k_ e_.symm).2); (case side4 => exact Kd.R_tight rfl HO341.out); (case side5 => exact fun k_ e_ => (HO341.out.1 k_ e_.symm).1.2); rintro e w39 ⟨v343, rfl, ho0, hb, hkp⟩; refine ⟨_, rfl, ?_⟩; have n0_ := Aside0.mk (blk_kept (by (with_reducible repeat (first | refine blk_drewN ?_ _ | refine blk_drew ?_ | refine blk_alloc ?_ _)); exact BK327.out) hkp (fun hs_ => Or.elim hs_ (fun e_ => (fun e_ => (Kd.R_away HO336.out (fun _ hk => hk.1)) e_) e_) (fun e_ => (fun e_ => (Kd.R_away HO341.out (fun _ hk => hk.2)) e_) e_))); have n1_ := Aside0.mk (Kd.R_mono (ok' := fun k_ => k_ ≠ gb327) ho0 (fun k_ hk_ => Or.elim hk_ (fun hs_ => Or.elim hs_ (fun hs_ => fun e_ => (Kd.R_away HO336.out (fun _ hk => hk.1)) (by rw [← e_]; exact hs_)) (fun hs_ => fun e_ => (Kd.R_away HO341.out (fun _ hk => hk.2)) (by rw [← e_]; exact hs_))) (fun hn_ => (Kd.freshB (g := gb327) (o := .cells #[.string a2_0, .int .u64 a2_1, .int .u64 a2_2] 25 (0, 0)) (by (with_reducible repeat (first | refine blk_drewN ?_ _ | refine blk_drew ?_ | refine blk_alloc ?_ _)); exact BK327.out) k_ hn_)))); have n2_ := Aside0.mk (hb); clear BK327; clear HB; clear HO336; clear HO341; have BK327 := n0_; have HO344 := n1_; have HB := n2_; clear n0_ n1_ n2_; (try clear hb); (try clear hkp); (try clear ho0); obtain ⟨Ao40, co40, eo40⟩ := Kd.R_slice HO344.out; subst eo40; have q41 : ((ji21) : Int) ≤ ((t342.length : Int) : Int) := of_decide_eq_true (by first | (with_reducible assumption) | assumption); obtain ⟨i041, hi041, _, hsz41, _⟩ := info_parts info25; have hcut41 := cut_to (P := Tryd.prog) 22 25 .i64 Tryd.underlying22 hi041 Ao40 t342.length co40 (ji21) (of_decide_eq_true (by first | (with_reducible assumption) | assumption)) q41 (Kd.R_reads' HO344.out).2.1; have hr41 := Kd.R_take (m := ((ji21) : Int).toNat) HO344.out (by omega); have hy41 : y345.length = ((ji21) : Int).toNat := (by rw [Ny345.out, List.length_take]; omega); rw [← Ny345.out] at hr41; rw [← hy41] at hr41 hcut41; clear hy41 hi041 hsz41 HO344; have HO347 := Aside0.mk hr41; clear hr41; replace q41 := eq_true q41))
              go_ret
              exact ⟨_, by first | rfl | (simp [errW_none, errW_some] <;> rfl) | (simp only [← hji21]; first | rfl | (simp [errW_none, errW_some] <;> rfl)) | (simp [*, errW_none, errW_some] <;> rfl), by (with_reducible repeat (first | apply Kd.R_alloc | apply Kd.R_drewN | apply Kd.R_drew)); exact Kd.R_mono HO347.out (fun _ hk => trivial), by repeat (first | (with_reducible first | exact HB.out | apply below_alloc | apply pw_below_drewN | apply below_drew1 | refine below_set ?_ GE327.out) | exact HB.out)⟩
            · rw [if_neg c23] at H
              exact absurd H (by simp)
          · rw [if_neg c22] at H
            exact absurd H (by simp)
      · rw [if_neg c8] at H
        exact absurd H (by simp)
    · rw [if_neg c7] at H
      exact absurd H (by simp)
  · rw [if_neg c6] at H
    have c6b0 : decide (0 ≤ t331) = false := decide_eq_false c6
    clear c6
    replace H := Option.bind_eq_some_iff.mp H
    obtain ⟨⟨t348, t349⟩, A420, H⟩ := H
    replace H : ((api_Item_35.f t328 t348 (([(⟨a2_0, a2_1, a2_2⟩ : S25)] : List (S25)))).bind fun t353 => (if 0 ≤ (mn (t353.length : Int) (wrap64 (a0 + 1))) then (if (mn (t353.length : Int) (wrap64 (a0 + 1))) ≤ (t353.length : Int) then (some (t353.take ((mn (t353.length : Int) (wrap64 (a0 + 1))) : Int).toNat)) else (none)) else (none))) = some r := H
    have A42 := Aside0.mk A420
    clear A420
    obtain ⟨y350, hy350⟩ : ∃ y_ : List (S25), y_ = (([(⟨a2_0, a2_1, a2_2⟩ : S25)] : List (S25))) := ⟨_, rfl⟩
    replace H : ((api_Item_35.f t328 t348 y350).bind fun t353 => (if 0 ≤ (mn (t353.length : Int) (wrap64 (a0 + 1))) then (if (mn (t353.length : Int) (wrap64 (a0 + 1))) ≤ (t353.length : Int) then (some (t353.take ((mn (t353.length : Int) (wrap64 (a0 + 1))) : Int).toNat)) else (none)) else (none))) = some r := by first | (rw [hy350]; with_reducible exact H) | (have H2_ := (Option.bind_some _ _).symm.trans H; rw [hy350]; with_reducible exact H2_) | (have H2_ := (Option.bind_some _ _).symm.trans H; with_reducible exact H2_) | with_reducible exact H | (rw [hy350]; exact H) | exact H
    have Ny350 := Aside0.mk hy350
    clear hy350
    replace H := Option.bind_eq_some_iff.mp H
    obtain ⟨t353, A430, H⟩ := H
    replace H : (if 0 ≤ (mn (t353.length : Int) (wrap64 (a0 + 1))) then (if (mn (t353.length : Int) (wrap64 (a0 + 1))) ≤ (t353.length : Int) then (some (t353.take ((mn (t353.length : Int) (wrap64 (a0 + 1))) : Int).toNat)) else (none)) else (none)) = some r := H
    have A43 := Aside0.mk A430
    clear A430
    obtain ⟨ji44, hji44⟩ : ∃ j_ : Int, (mn (t353.length : Int) (wrap64 (a0 + 1))) = j_ := ⟨_, rfl⟩
    replace H : (if 0 ≤ (ji44) then (if (ji44) ≤ (t353.length : Int) then (some (t353.take ((ji44) : Int).toNat)) else (none)) else (none)) = some r := by first | (rw [hji44] at H; exact H) | (simp only [hji44] at H ⊢; exact H)
    (try rw [hji44] at A4)
    (try rw [hji44] at A5)
    (try rw [hji44] at A42)
    (try rw [hji44] at A43)
    have hji44_ : (if (wrap64 (a0 + 1)) < (t353.length : Int) then (wrap64 (a0 + 1)) else (t353.length : Int)) = ji44 := hji44
    by_cases c45 : 0 ≤ (ji44)
    · rw [if_pos c45] at H
      have c45b0 := eq_true c45
      have c45b1 : decide (0 ≤ (ji44)) = true := decide_eq_true c45
      clear c45
      by_cases c46 : (ji44) ≤ (t353.length : Int)
      · rw [if_pos c46] at H
        have c46b0 := eq_true c46
        have c46b1 : decide ((ji44) ≤ (t353.length : Int)) = true := decide_eq_true c46
        clear c46
        obtain ⟨y356, hy356⟩ : ∃ y_ : List (S25), y_ = (t353.take ((ji44) : Int).toNat) := ⟨_, rfl⟩
        replace H : (some y356) = some r := by first | (rw [hy356]; with_reducible exact H) | (have H2_ := (Option.bind_some _ _).symm.trans H; rw [hy356]; with_reducible exact H2_) | (have H2_ := (Option.bind_some _ _).symm.trans H; with_reducible exact H2_) | with_reducible exact H | (rw [hy356]; exact H) | exact H
        have Ny356 := Aside0.mk hy356
        clear hy356
        obtain rfl := Option.some.inj H
        go_enter Tryd.func18, Tryd.ntmps18
        go_wp2_with (first | ((with_reducible refine gate_dst (N := 5) rfl ?_); refine box_event ?hg (N := 5) ?hd (cs := #[.string a2_0, .int .u64 a2_1, .int .u64 a2_2]) (t := 25) ?hr ?_; (case hd => rfl); (case hg => rfl); (case hr => first | (go_simp; done) | (go_simp; rfl)); intro gb327 hg w47 hbox hb; have n0_ := Aside0.mk (below_step (by repeat (first | (with_reducible first | exact HB.out | apply below_alloc | apply pw_below_drewN | apply below_drew1) | exact HB.out)) hb); have n1_ := Aside0.mk (hbox); have n2_ := Aside0.mk ((by rw [hg]; exact (below_size (by repeat (first | (with_reducible first | exact HB.out | apply below_alloc | apply pw_below_drewN | apply below_drew1) | exact HB.out))) : w.heap.size ≤ gb327)); have n3_ := Aside0.mk ((by rw [hg]; exact (below_size (by repeat (first | (with_reducible first | exact HB.out | apply below_alloc | apply pw_below_drewN | apply below_drew1) | exact HB.out))) : w.heap.size ≤ gb327)); clear HB; have HB := n0_; have BK327 := n1_; have GW327 := n2_; have GE327 := n3_; clear n0_ n1_ n2_ n3_; clear hb hbox hg) | ((with_reducible refine gate_callee (f := 19) rfl ?_); refine goesL_ (some 12) rfl rfl Tryd.func19 (by kernel_rfl) rfl #[.slice A1 l1.length c1] rfl (by (try simp only [List.map_toArray, List.map_cons, List.map_nil]); first | done | rfl | (simp only [List.length_drop, List.length_take]; rfl)) ?_; (with_reducible refine (api_Item_19.calls _ _ l1 t328 _ ?side1 ?side2 A4.out).mono ?_); (case side1 => repeat (first | exact (Kd.C_below HR1.out HB.out) | (with_reducible refine Kd.C_alloc ?_ _) | (with_reducible refine Kd.C_drewN ?_ _) | (with_reducible refine Kd.C_drew ?_))); (case side2 => exact HC1.out); rintro e w48 ⟨v329, rfl, ho0, hb⟩; refine ⟨_, rfl, ?_⟩; have n0_ := Aside0.mk (Kd.R_lower (Kd.R_newB ho0 (g := gb327) (o := .cells #[.string a2_0, .int .u64 a2_1, .int .u64 a2_2] 25 (0, 0)) (by (with_reducible repeat (first | refine blk_drewN ?_ _ | refine blk_drew ?_ | refine blk_alloc ?_ _)); exact BK327.out)) (below_size (by repeat (first | (with_reducible first | exact HB.out | apply below_alloc | apply pw_below_drewN | apply below_drew1 | refine below_set ?_ GE327.out) | exact HB.out)))); have n1_ := Aside0.mk (blk_below (g := gb327) (o := .cells #[.string a2_0, .int .u64 a2_1, .int .u64 a2_2] 25 (0, 0)) (by (with_reducible repeat (first | refine blk_drewN ?_ _ | refine blk_drew ?_ | refine blk_alloc ?_ _)); exact BK327.out) hb); have n2_ := Aside0.mk (below_step (by repeat (first | (with_reducible first | exact HB.out | apply below_alloc | apply pw_below_drewN | apply below_drew1 | refine below_set ?_ GE327.out) | exact HB.out)) hb); clear BK327; clear HB; have HO330 := n0_; have BK327 := n1_; have HB := n2_; clear n0_ n1_ n2_; (try clear hb); (try clear hb2); (try clear hk); (try clear hi); (try clear ho0); have hcz49_0 : w48.cell? ⟨gb327, 0, none⟩ = some (.string a2_0) := (blk_cell BK327.out 0).trans rfl; have hcz49_1 : w48.cell? ⟨gb327, 1, none⟩ = some (.int .u64 a2_1) := (blk_cell BK327.out 1).trans rfl; have hcz49_2 : w48.cell? ⟨gb327, 2, none⟩ = some (.int .u64 a2_2) := (blk_cell BK327.out 2).trans rfl; have hfz49_0 := blk_frozen BK327.out 0; have hfz49_1 := blk_frozen BK327.out 1; have hfz49_2 := blk_frozen BK327.out 2; obtain ⟨Ao50, co50, eo50⟩ := Kd.R_slice HO330.out; subst eo50) | ((with_reducible refine gate_callee (f := 31) rfl ?_); refine goesL_ (some 15) rfl rfl Tryd.func31 (by kernel_rfl) rfl #[.slice Ao50 t328.length co50, .func (.func 32) #[] #[.pointer (some ⟨gb327, 0, none⟩)]] rfl (by (try simp only [List.map_toArray, List.map_cons, List.map_nil]); first | done | rfl | (simp only [List.length_drop, List.length_take]; rfl)) ?_; (with_reducible refine (slices_IndexFunc_1.calls _ _ t328 a2_0 a2_1 a2_2 t331 _ ?side1 ?side2 gb327 (by (with_reducible repeat (first | refine blk_drewN ?_ _ | refine blk_drew ?_ | refine blk_alloc ?_ _)); exact BK327.out) A5.out).mono ?_); (case side1 => repeat (first | exact (Kd.R_reads' HO330.out).2.2 | (with_reducible refine Kd.C_alloc ?_ _) | (with_reducible refine Kd.C_drewN ?_ _) | (with_reducible refine Kd.C_drew ?_))); (case side2 => exact (Kd.R_reads' HO330.out).2.1); rintro e w51 ⟨rfl, hb⟩; refine ⟨_, rfl, ?_⟩; have n0_ := Aside0.mk (Kd.R_below (by (with_reducible repeat (first | apply Kd.R_alloc | apply Kd.R_drewN | apply Kd.R_drew)); exact HO330.out) hb); have n1_ := Aside0.mk (blk_below (g := gb327) (o := .cells #[.string a2_0, .int .u64 a2_1, .int .u64 a2_2] 25 (0, 0)) (by (with_reducible repeat (first | refine blk_drewN ?_ _ | refine blk_drew ?_ | refine blk_alloc ?_ _)); exact BK327.out) hb); have n2_ := Aside0.mk (below_step (by repeat (first | (with_reducible first | exact HB.out | apply below_alloc | apply pw_below_drewN | apply below_drew1 | refine below_set ?_ GE327.out) | exact HB.out)) hb); clear HO330; clear BK327; clear HB; have HO330 := n0_; have BK327 := n1_; have HB := n2_; clear n0_ n1_ n2_; (try clear hb); (try clear hb2); (try clear hk); (try clear hi); have hcz52_0 : w51.cell? ⟨gb327, 0, none⟩ = some (.string a2_0) := (blk_cell BK327.out 0).trans rfl; have hcz52_1 : w51.cell? ⟨gb327, 1, none⟩ = some (.int .u64 a2_1) := (blk_cell BK327.out 1).trans rfl; have hcz52_2 : w51.cell? ⟨gb327, 2, none⟩ = some (.int .u64 a2_2) := (blk_cell BK327.out 2).trans rfl; have hfz52_0 := blk_frozen BK327.out 0; have hfz52_1 := blk_frozen BK327.out 1; have hfz52_2 := blk_frozen BK327.out 2) | ((with_reducible refine gate_callee (f := 34) rfl ?_); refine goesL_ (some 34) rfl rfl Tryd.func34 (by kernel_rfl) rfl #[.slice Ao50 t328.length co50, .agg #[.string a2_0, .int .u64 a2_1, .int .u64 a2_2], .func (.func 14) #[] #[]] rfl (by (try simp only [List.map_toArray, List.map_cons, List.map_nil]); first | done | rfl | (simp only [List.length_drop, List.length_take]; rfl)) ?_; (with_reducible refine (api_Item_34__rank_Cmp.calls k _ _ t328 a2_0 a2_1 a2_2 t348 t349 _ ?side1 ?side2 A42.out).mono ?_); (case side1 => repeat (first | exact (Kd.R_reads' HO330.out).2.2 | (with_reducible refine Kd.C_alloc ?_ _) | (with_reducible refine Kd.C_drewN ?_ _) | (with_reducible refine Kd.C_drew ?_))); (case side2 => exact (Kd.R_reads' HO330.out).2.1); rintro e w53 ⟨rfl, hb⟩; refine ⟨_, rfl, ?_⟩; have n0_ := Aside0.mk (Kd.R_below (by (with_reducible repeat (first | apply Kd.R_alloc | apply Kd.R_drewN | apply Kd.R_drew)); exact HO330.out) hb); have n1_ := Aside0.mk (blk_below (g := gb327) (o := .cells #[.string a2_0, .int .u64 a2_1, .int .u64 a2_2] 25 (0, 0)) (by (with_reducible repeat (first | refine blk_drewN ?_ _ | refine blk_drew ?_ | refine blk_alloc ?_ _)); exact BK327.out) hb); have n2_ := Aside0.mk (below_step (by repeat (first | (with_reducible first | exact HB.out | apply below_alloc | apply pw_below_drewN | apply below_drew1 | refine below_set ?_ GE327.out) | exact HB.out)) hb); clear HO330; clear BK327; clear HB; have HO330 := n0_; have BK327 := n1_; have HB := n2_; clear n0_ n1_ n2_; (try clear hb); (try clear hb2); (try clear hk); (try clear hi); have hcz54_0 : w53.cell? ⟨gb327, 0, none⟩ = some (.string a2_0) := (blk_cell BK327.out 0).trans rfl; have hcz54_1 : w53.cell? ⟨gb327, 1, none⟩ = some (.int .u64 a2_1) := (blk_cell BK327.out 1).trans rfl; have hcz54_2 : w53.cell? ⟨gb327, 2, none⟩ = some (.int .u64 a2_2) := (blk_cell BK327.out 2).trans rfl; have hfz54_0 := blk_frozen BK327.out 0; have hfz54_1 := blk_frozen BK327.out 1; have hfz54_2 := blk_frozen BK327.out 2) | ((with_reducible refine gate_dst (N := 40) rfl ?_); refine Kd.R_lit k25 _ 25 ?hg (N := 40) ?hd (xs := ([(⟨a2_0, a2_1, a2_2⟩ : S25)] : List (S25))) (inner := [.string a2_0, .int .u64 a2_1, .int .u64 a2_2]) (ok := fun _ => True) (okp := fun _ => True) ?hr ?hp (fun _ hk => hk) trivial (Below.refl _ _) (Nat.le_refl _) (by simp) ?_; (case hd => rfl); (case hg => rfl); (case hr => first | (go_simp; done) | (go_simp; rfl)); (case hp => exact (Reps.c3 (show Kd.M k25 _ _ _ (⟨a2_0, a2_1, a2_2⟩ : S25) [.string a2_0, .int .u64 a2_1, .int .u64 a2_2] from (k25_mkM _ _ _ (⟨a2_0, a2_1, a2_2⟩ : S25) )) (Reps.none _ _))); intro v351 w55 ho56 hb hg_ hnew_; clear hg_ hnew_; (first | rw [← Ny350.out] at ho56 | (simp only [Int.reduceToNat] at ho56; rw [← Ny350.out] at ho56)); have n0_ := Aside0.mk (Kd.R_elder' (by (with_reducible repeat (first | apply Kd.R_alloc | apply Kd.R_drewN | apply Kd.R_drew)); exact HO330.out) (Kd.R_base ho56) hb); have n1_ := Aside0.mk (Kd.R_lower (Kd.R_newB (Kd.R_new' ho56 (Kd.R_lt (by (with_reducible repeat (first | apply Kd.R_alloc | apply Kd.R_drewN | apply Kd.R_drew)); exact HO330.out))) (g := gb327) (o := .cells #[.string a2_0, .int .u64 a2_1, .int .u64 a2_2] 25 (0, 0)) (by (with_reducible repeat (first | refine blk_drewN ?_ _ | refine blk_drew ?_ | refine blk_alloc ?_ _)); exact BK327.out)) (below_size (by repeat (first | (with_reducible first | exact HB.out | apply below_alloc | apply pw_below_drewN | apply below_drew1 | refine below_set ?_ GE327.out) | exact HB.out)))); have n2_ := Aside0.mk (blk_below (g := gb327) (o := .cells #[.string a2_0, .int .u64 a2_1, .int .u64 a2_2] 25 (0, 0)) (by (with_reducible repeat (first | refine blk_drewN ?_ _ | refine blk_drew ?_ | refine blk_alloc ?_ _)); exact BK327.out) hb); have n3_ := Aside0.mk (below_step (by repeat (first | (with_reducible first | exact HB.out | apply below_alloc | apply pw_below_drewN | apply below_drew1 | refine below_set ?_ GE327.out) | exact HB.out)) hb); clear HO330; clear BK327; clear HB; have HO330 := n0_; have HO352 := n1_; have BK327 := n2_; have HB := n3_; clear n0_ n1_ n2_ n3_; clear hb ho56; obtain ⟨Ao57, co57, eo57⟩ := Kd.R_slice HO352.out; subst eo57) | ((with_reducible refine gate_callee (f := 35) rfl ?_); refine goesL_ (some 41) rfl rfl Tryd.func35 (by kernel_rfl) rfl #[.slice Ao50 t328.length co50, .int .i64 t348, .slice Ao57 y350.length co57] rfl (by (try simp only [List.map_toArray, List.map_cons, List.map_nil]); first | done | rfl | (simp only [List.length_drop, List.length_take]; rfl)) ?_; (with_reducible refine (api_Item_35.calls (fun k_ => some k_ = (.slice Ao50 t328.length co50 : Value).ownBlock) (.slice Ao50 t328.length co50) t328 t348 (fun k_ => some k_ = (.slice Ao57 y350.length co57 : Value).ownBlock) (.slice Ao57 y350.length co57) y350 t353 w _ ?side1 ?side2 ?side3 ?side4 ?side5 A43.out).mono ?_); (case side1 => repeat (first | (with_reducible first | exact HB.out | apply below_alloc | apply pw_below_drewN | apply below_drew1 | refine below_set ?_ GE327.out) | exact HB.out)); (case side2 => exact Kd.R_tight rfl HO330.out); (case side3 => exact fun k_ e_ => (HO330.out.1 k_ e_.symm).2); (case side4 => exact Kd.R_tight rfl HO352.out); (case side5 => exact fun k_ e_ => (HO352.out.1 k_ e_.symm).1.2); rintro e w58 ⟨v354, rfl, ho0, hb, hkp⟩; refine ⟨_, rfl, ?_⟩; have n0_ := Aside0.mk (blk_kept (by (with_reducible repeat (first | refine blk_drewN ?_ _ | refine blk_drew ?_ | refine blk_alloc ?_ _)); exact BK327.out) hkp (fun hs_ => Or.elim hs_ (fun e_ => (fun e_ => (Kd.R_away HO330.out (fun _ hk => hk.1.2)) e_) e_) (fun e_ => (fun e_ => (Kd.R_away HO352.out (fun _ hk => hk.2)) e_) e_))); have n1_ := Aside0.mk (Kd.R_mono (ok' := fun k_ => k_ ≠ gb327) ho0 (fun k_ hk_ => Or.elim hk_ (fun hs_ => Or.elim hs_ (fun hs_ => fun e_ => (Kd.R_away HO330.out (fun _ hk => hk.1.2)) (by rw [← e_]; exact hs_)) (fun hs_ => fun e_ => (Kd.R_away HO352.out (fun _ hk => hk.2)) (by rw [← e_]; exact hs_))) (fun hn_ => (Kd.freshB (g := gb327) (o := .cells #[.string a2_0, .int .u64 a2_1, .int .u64 a2_2] 25 (0, 0)) (by (with_reducible repeat (first | refine blk_drewN ?_ _ | refine blk_drew ?_ | refine blk_alloc ?_ _)); exact BK327.out) k_ hn_)))); have n2_ := Aside0.mk (hb); clear BK327; clear HB; clear HO330; clear HO352; have BK327 := n0_; have HO355 := n1_; have HB := n2_; clear n0_ n1_ n2_; (try clear hb); (try clear hkp); (try clear ho0); obtain ⟨Ao59, co59, eo59⟩ := Kd.R_slice HO355.out; subst eo59; have q60 : ((ji44) : Int) ≤ ((t353.length : Int) : Int) := of_decide_eq_true (by first | (with_reducible assumption) | assumption); obtain ⟨i060, hi060, _, hsz60, _⟩ := info_parts info25; have hcut60 := cut_to (P := Tryd.prog) 22 25 .i64 Tryd.underlying22 hi060 Ao59 t353.length co59 (ji44) (of_decide_eq_true (by first | (with_reducible assumption) | assumption)) q60 (Kd.R_reads' HO355.out).2.1; have hr60 := Kd.R_take (m := ((ji44) : Int).toNat) HO355.out (by omega); have hy60 : y356.length = ((ji44) : Int).toNat := (by rw [Ny356.out, List.length_take]; omega); rw [← Ny356.out] at hr60; rw [← hy60] at hr60 hcut60; clear hy60 hi060 hsz60 HO355; have HO358 := Aside0.mk hr60; clear hr60; replace q60 := eq_true q60))
        go_ret
        exact ⟨_, by first | rfl | (simp [errW_none, errW_some] <;> rfl) | (simp only [← hji44]; first | rfl | (simp [errW_none, errW_some] <;> rfl)) | (simp [*, errW_none, errW_some] <;> rfl), by (with_reducible repeat (first | apply Kd.R_alloc | apply Kd.R_drewN | apply Kd.R_drew)); exact Kd.R_mono HO358.out (fun _ hk => trivial), by repeat (first | (with_reducible first | exact HB.out | apply below_alloc | apply pw_below_drewN | apply below_drew1 | refine below_set ?_ GE327.out) | exact HB.out)⟩
      · rw [if_neg c46] at H
        exact absurd H (by simp)
    · rw [if_neg c45] at H
      exact absurd H (by simp)

/-! ### keep_All: function 15 -/
def keep_All.l0 : Nat → Int → List (S25) → List (S25) → Int → Int → Option ((List (S25)) × Int)
  | 0, _, _, _, _, _ => none
  | k + 1, x0, x6, x13, x14, x15 => if x15 < x14 then (if 0 ≤ x15 then (if x15 < (x13.length : Int) then ((rank_Check.f ((rd_T25 x13 x15).f0) ((rd_T25 x13 x15).f1) ((rd_T25 x13 x15).f2)).bind fun t362 => (if t362 = 0 then ((keep_add.f k x0 x6 ((rd_T25 x13 x15).f0) ((rd_T25 x13 x15).f1) ((rd_T25 x13 x15).f2)).bind fun t363 => (keep_All.l0 k x0 t363 x13 x14 (wrap64 (x15 + 1)))) else (none))) else (none)) else (none)) else (some (x6, 0))
def keep_All.f (k : Nat) (a0 : Int) (l1 : List (S25)) : Option ((List (S25)) × Int) := (keep_fits.f a0).bind fun t359 => (if t359 = true then (keep_All.l0 k a0 ([] : List (S25)) l1 (l1.length : Int) 0) else (none))
theorem keep_All.mono_l : ∀ k, (∀ y0 y1 y2 y3 y4, LeO (keep_All.l0 k y0 y1 y2 y3 y4) (keep_All.l0 (k + 1) y0 y1 y2 y3 y4))
  | 0 => fun _ _ _ _ _ r h => by simp [keep_All.l0] at h
  | k + 1 => by
    have ih0 := keep_All.mono_l k
    · intro y0 y1 y2 y3 y4
      unfold keep_All.l0
      repeat' first
      | (with_reducible exact ih0 _ _ _ _ _)
      | (with_reducible exact keep_add.mono _ _ _ _ _ _)
      | (with_reducible exact LeO.refl _)
      | (with_reducible exact LeO.none _)
      | (with_reducible refine LeO.ite ?_ ?_)
      | (with_reducible refine LeO.bind ?_ (fun _ => ?_))
      | exact ih0 _ _ _ _ _
      | exact keep_add.mono _ _ _ _ _ _
      | exact LeO.none _
      | refine LeO.ite ?_ ?_
      | refine LeO.bind ?_ (fun _ => ?_)
theorem keep_All.mono : ∀ a0 a1 k, LeO (keep_All.f k a0 a1) (keep_All.f (k + 1) a0 a1) := by
  intro a0 a1 k
  have ih0 := keep_All.mono_l k
  unfold keep_All.f
  repeat' first
      | (with_reducible exact ih0 _ _ _ _ _)
      | (with_reducible exact keep_add.mono _ _ _ _ _ _)
      | (with_reducible exact LeO.refl _)
      | (with_reducible exact LeO.none _)
      | (with_reducible refine LeO.ite ?_ ?_)
      | (with_reducible refine LeO.bind ?_ (fun _ => ?_))
      | exact ih0 _ _ _ _ _
      | exact keep_add.mono _ _ _ _ _ _
      | exact LeO.none _
      | refine LeO.ite ?_ ?_
      | refine LeO.bind ?_ (fun _ => ?_)
set_option maxHeartbeats 8000000 in
set_option maxRecDepth 100000 in
theorem keep_All.calls (k : Nat) (a0 : Int) (A1 : Option Addr) (c1 : Nat) (l1 : List (S25)) (r1 : List (S25)) (r2 : Int) (w : World) (hr1 : Kd.C k25 w A1 l1.length l1) (hc1 : l1.length ≤ c1) (h : keep_All.f k a0 l1 = some (r1, r2)) :
    Calls Tryd.prog 15 #[.int .i64 a0, .slice A1 l1.length c1] w fun e w' => ∃ v0_ : Value, e = .returned (.tuple #[v0_, .int .i64 r2]) ∧ Kd.R k25 25 w' w.heap.size (fun _ => True) v0_ r1 ∧ Below w.heap.size w w' := by
  have hu25 := Tryd.underlying25
  have HR1 := Aside0.mk hr1
  have HC1 := Aside0.mk hc1
  clear hr1 hc1
  have HB := Aside0.mk (Below.refl w.heap.size w)
  have H : ((keep_fits.f a0).bind fun t359 => (if t359 = true then (keep_All.l0 k a0 ([] : List (S25)) l1 (l1.length : Int) 0) else (none))) = some (r1, r2) := h
  clear h
  replace H := Option.bind_eq_some_iff.mp H
  obtain ⟨t359, A30, H⟩ := H
  replace H : (if t359 = true then (keep_All.l0 k a0 ([] : List (S25)) l1 (l1.length : Int) 0) else (none)) = some (r1, r2) := H
  have A3 := Aside0.mk A30
  clear A30
  by_cases c4 : t359 = true
  · subst c4
    have H1 : (keep_All.l0 k a0 ([] : List (S25)) l1 (l1.length : Int) 0) = some (r1, r2) := by rw [if_pos rfl] at H; exact H
    clear H
    have H := H1
    clear H1
    have H' := Aside0.mk H
    clear H
    go_enter Tryd.func15, Tryd.ntmps15
    go_wp2_with (first | ((with_reducible refine gate_callee (f := 13) rfl ?_); refine goesL_ (some 11) rfl rfl Tryd.func13 (by kernel_rfl) rfl #[.int .i64 a0] rfl (by (try simp only [List.map_toArray, List.map_cons, List.map_nil]); first | done | rfl | (simp only [List.length_drop, List.length_take]; rfl)) ?_; (with_reducible refine (keep_fits.calls a0 true _ A3.out).mono ?_); rintro e w' ⟨rfl, ⟨nd, rfl⟩⟩; refine ⟨_, rfl, ?_⟩))
    go_loopg [6, 15] k (fun kq v6 v15 w' => ∃ (x6_1 : List (S25)) (x15_1 : Int), v15 = .int .i64 x15_1 ∧ Aside0 (keep_All.l0 kq a0 x6_1 l1 (l1.length : Int) x15_1 = some (r1, r2)) ∧ Aside0 (kq ≤ k) ∧ Aside0 (Kd.R k25 25 w' w.heap.size (fun _ => True) v6 x6_1) ∧ Aside0 (Below w.heap.size w w'))
    case atStart => exact ⟨(([] : List (S25))), (0), (by first | rfl | (simp; done) | (simp [*]; done)), H', ⟨Nat.le_refl _⟩, ⟨by first | exact Kd.R_nil _ _ _ _ _ | exact Kd.N_nil _ _ _ _ _ | exact Kd.V_nil _ _ _ _ _ | exact Kd.Q_nil _ _ _ _ _ | exact Kd.S_nil _ _ _ _ _⟩, ⟨by repeat (first | (with_reducible first | exact HB.out | apply below_alloc | apply pw_below_drewN | apply below_drew1) | exact HB.out)⟩⟩
    case round =>
      clear H'
      try clear c1
      try clear p2
      try clear c4
      obtain ⟨x6_1, x15_1, rfl, HA, HK1, HO_6, HB⟩ := hrel
      cases gk with
      | zero => exact absurd HA.out (by simp [keep_All.l0])
      | succ k1 =>
        have H := HA.out
        clear HA
        simp only [keep_All.l0] at H
        by_cases c5 : x15_1 < (l1.length : Int)
        · rw [if_pos c5] at H
          have c5b0 : decide (x15_1 < (l1.length : Int)) = true := decide_eq_true c5
          clear c5
          by_cases c6 : 0 ≤ x15_1
          · rw [if_pos c6] at H
            have c6b0 : decide (0 ≤ x15_1) = true := decide_eq_true c6
            clear c6
            by_cases c7 : x15_1 < (l1.length : Int)
            · rw [if_pos c7] at H
              have c7b0 : decide (x15_1 < (l1.length : Int)) = true := decide_eq_true c7
              clear c7
              replace H := Option.bind_eq_some_iff.mp H
              obtain ⟨t362, A80, H⟩ := H
              replace H : (if t362 = 0 then ((keep_add.f k1 a0 x6_1 ((rd_T25 l1 x15_1).f0) ((rd_T25 l1 x15_1).f1) ((rd_T25 l1 x15_1).f2)).bind fun t363 => (keep_All.l0 k1 a0 t363 l1 (l1.length : Int) (wrap64 (x15_1 + 1)))) else (none)) = some (r1, r2) := H
              have A8 := Aside0.mk A80
              clear A80
              by_cases c9 : t362 = 0
              · rw [if_pos c9] at H
                have c9b0 : (t362 == 0) = true := beq_iff_eq.mpr c9
                have c9b1 : (t362 != 0) = false := bne_eq_false_iff_eq.mpr c9
                clear c9
                replace H := Option.bind_eq_some_iff.mp H
                obtain ⟨t363, A100, H⟩ := H
                replace H : (keep_All.l0 k1 a0 t363 l1 (l1.length : Int) (wrap64 (x15_1 + 1))) = some (r1, r2) := H
                have A10 := Aside0.mk A100
                clear A100
                have H' := Aside0.mk H
                clear H
                have p360 : 0 ≤ (x15_1 : Int) := of_decide_eq_true (by first | (with_reducible assumption) | assumption)
                have q360 : x15_1 < (l1.length : Int) := of_decide_eq_true (by first | (with_reducible assumption) | assumption)
                obtain ⟨ad360, e360, hx360_0, hx360_1, hx360_2⟩ := at_T25 HR1.out x15_1 p360 q360
                cases e360
                replace hx360_0 := (HB.out.cell (World.block_lt_of_cell? w _ hx360_0)).trans hx360_0
                replace hx360_1 := (HB.out.cell (World.block_lt_of_cell? w _ hx360_1)).trans hx360_1
                replace hx360_2 := (HB.out.cell (World.block_lt_of_cell? w _ hx360_2)).trans hx360_2
                replace p360 := eq_true p360
                replace q360 := eq_true q360
                go_wp2_with (first | ((with_reducible refine gate_dst (N := 8) rfl ?_); refine box_event ?hg (N := 8) ?hd (cs := #[.string (⟨#[]⟩ : ByteArray), .int .u64 0, .int .u64 0]) (t := 25) ?hr ?_; (case hd => rfl); (case hg => rfl); (case hr => first | (go_simp; done) | (go_simp; rfl)); intro gb361 hg w11 hbox hb; have n0_ := Aside0.mk (Kd.R_below (Kd.R_elderB (by (with_reducible repeat (first | apply Kd.R_alloc | apply Kd.R_drewN | apply Kd.R_drew)); exact HO_6.out) gb361 (Nat.le_of_eq hg.symm)) hb); have n1_ := Aside0.mk (below_step (by repeat (first | (with_reducible first | exact HB.out | apply below_alloc | apply pw_below_drewN | apply below_drew1) | exact HB.out)) hb); have n2_ := Aside0.mk (hbox); have n3_ := Aside0.mk ((by rw [hg]; exact (below_size (by repeat (first | (with_reducible first | exact HB.out | apply below_alloc | apply pw_below_drewN | apply below_drew1) | exact HB.out))) : w.heap.size ≤ gb361)); have n4_ := Aside0.mk ((by rw [hg]; exact (below_size (by repeat (first | (with_reducible first | exact HB.out | apply below_alloc | apply pw_below_drewN | apply below_drew1) | exact HB.out))) : w.heap.size ≤ gb361)); clear HO_6; clear HB; have HO_6 := n0_; have HB := n1_; have BK361 := n2_; have GW361 := n3_; have GE361 := n4_; clear n0_ n1_ n2_ n3_ n4_; clear hb hbox hg; have hcz12_0 : w11.cell? ⟨gb361, 0, none⟩ = some (.string (⟨#[]⟩ : ByteArray)) := (blk_cell BK361.out 0).trans rfl; have hcz12_1 : w11.cell? ⟨gb361, 1, none⟩ = some (.int .u64 0) := (blk_cell BK361.out 1).trans rfl; have hcz12_2 : w11.cell? ⟨gb361, 2, none⟩ = some (.int .u64 0) := (blk_cell BK361.out 2).trans rfl; have hfz12_0 := blk_frozen BK361.out 0; have hfz12_1 := blk_frozen BK361.out 1; have hfz12_2 := blk_frozen BK361.out 2) | ((with_reducible refine gate_callee (f := 6) rfl ?_); refine goesL_ (some 20) rfl rfl Tryd.func6 (by kernel_rfl) rfl #[.agg #[.string ((rd_T25 l1 x15_1).f0), .int .u64 ((rd_T25 l1 x15_1).f1), .int .u64 ((rd_T25 l1 x15_1).f2)]] rfl (by (try simp only [List.map_toArray, List.map_cons, List.map_nil]); first | done | rfl | (simp only [List.length_drop, List.length_take]; rfl)) ?_; (with_reducible refine (rank_Check.calls ((rd_T25 l1 x15_1).f0) ((rd_T25 l1 x15_1).f1) ((rd_T25 l1 x15_1).f2) t362 _ A8.out).mono ?_); rintro e w13 ⟨rfl, hb⟩; refine ⟨_, rfl, ?_⟩; have n0_ := Aside0.mk (Kd.R_below (by (with_reducible repeat (first | apply Kd.R_alloc | apply Kd.R_drewN | apply Kd.R_drew)); exact (Kd.R_mono (Kd.R_far (p := ⟨gb361, 2, none⟩) (Kd.R_far (p := ⟨gb361, 1, none⟩) (Kd.R_far (p := ⟨gb361, 0, none⟩) (Kd.R_mono HO_6.out (fun k_ hk => (⟨hk, hk.2⟩ : _ ∧ k_ ≠ gb361))) (fun _ hk => hk.2) (.string ((rd_T25 l1 x15_1).f0))) (fun _ hk => hk.2) (.int .u64 ((rd_T25 l1 x15_1).f1))) (fun _ hk => hk.2) (.int .u64 ((rd_T25 l1 x15_1).f2))) (fun _ h_ => h_.1))) hb); have n1_ := Aside0.mk (blk_below (g := gb361) (o := .cells #[.string ((rd_T25 l1 x15_1).f0), .int .u64 ((rd_T25 l1 x15_1).f1), .int .u64 ((rd_T25 l1 x15_1).f2)] 25 (0, 0)) (by (with_reducible repeat (first | refine blk_drewN ?_ _ | refine blk_drew ?_ | refine blk_alloc ?_ _)); refine blk_put (cs := #[.string ((rd_T25 l1 x15_1).f0), .int .u64 ((rd_T25 l1 x15_1).f1), .int .u64 0]) ?_ 2 _ rfl; (with_reducible repeat (first | refine blk_drewN ?_ _ | refine blk_drew ?_ | refine blk_alloc ?_ _)); refine blk_put (cs := #[.string ((rd_T25 l1 x15_1).f0), .int .u64 0, .int .u64 0]) ?_ 1 _ rfl; (with_reducible repeat (first | refine blk_drewN ?_ _ | refine blk_drew ?_ | refine blk_alloc ?_ _)); refine blk_put (cs := #[.string (⟨#[]⟩ : ByteArray), .int .u64 0, .int .u64 0]) ?_ 0 _ rfl; (with_reducible repeat (first | refine blk_drewN ?_ _ | refine blk_drew ?_ | refine blk_alloc ?_ _)); exact BK361.out) hb); have n2_ := Aside0.mk (below_step (by repeat (first | (with_reducible first | exact HB.out | apply below_alloc | apply pw_below_drewN | apply below_drew1 | refine below_set ?_ GE361.out) | exact HB.out)) hb); clear HO_6; clear BK361; clear HB; have HO_6 := n0_; have BK361 := n1_; have HB := n2_; clear n0_ n1_ n2_; (try clear hb); (try clear hb2); (try clear hk); (try clear hi); have hcz14_0 : w13.cell? ⟨gb361, 0, none⟩ = some (.string ((rd_T25 l1 x15_1).f0)) := (blk_cell BK361.out 0).trans rfl; have hcz14_1 : w13.cell? ⟨gb361, 1, none⟩ = some (.int .u64 ((rd_T25 l1 x15_1).f1)) := (blk_cell BK361.out 1).trans rfl; have hcz14_2 : w13.cell? ⟨gb361, 2, none⟩ = some (.int .u64 ((rd_T25 l1 x15_1).f2)) := (blk_cell BK361.out 2).trans rfl; have hfz14_0 := blk_frozen BK361.out 0; have hfz14_1 := blk_frozen BK361.out 1; have hfz14_2 := blk_frozen BK361.out 2; obtain ⟨Ao15, co15, eo15⟩ := Kd.R_slice HO_6.out; subst eo15) | ((with_reducible refine gate_callee (f := 18) rfl ?_); refine goesL_ (some 27) rfl rfl Tryd.func18 (by kernel_rfl) rfl #[.int .i64 a0, .slice Ao15 x6_1.length co15, .agg #[.string ((rd_T25 l1 x15_1).f0), .int .u64 ((rd_T25 l1 x15_1).f1), .int .u64 ((rd_T25 l1 x15_1).f2)]] rfl (by (try simp only [List.map_toArray, List.map_cons, List.map_nil]); first | done | rfl | (simp only [List.length_drop, List.length_take]; rfl)) ?_; (with_reducible refine (keep_add.calls k1 a0 _ _ x6_1 ((rd_T25 l1 x15_1).f0) ((rd_T25 l1 x15_1).f1) ((rd_T25 l1 x15_1).f2) t363 _ ?side1 ?side2 A10.out).mono ?_); (case side1 => repeat (first | exact (Kd.R_reads' HO_6.out).2.2 | (with_reducible refine Kd.C_alloc ?_ _) | (with_reducible refine Kd.C_drewN ?_ _) | (with_reducible refine Kd.C_drew ?_))); (case side2 => exact (Kd.R_reads' HO_6.out).2.1); rintro e w16 ⟨v364, rfl, ho0, hb⟩; refine ⟨_, rfl, ?_⟩; have n0_ := Aside0.mk (Kd.R_elder' (by (with_reducible repeat (first | apply Kd.R_alloc | apply Kd.R_drewN | apply Kd.R_drew)); exact HO_6.out) (Kd.R_base ho0) hb); have n1_ := Aside0.mk (Kd.R_lower (Kd.R_newB (Kd.R_new' ho0 (Kd.R_lt (by (with_reducible repeat (first | apply Kd.R_alloc | apply Kd.R_drewN | apply Kd.R_drew)); exact HO_6.out))) (g := gb361) (o := .cells #[.string ((rd_T25 l1 x15_1).f0), .int .u64 ((rd_T25 l1 x15_1).f1), .int .u64 ((rd_T25 l1 x15_1).f2)] 25 (0, 0)) (by (with_reducible repeat (first | refine blk_drewN ?_ _ | refine blk_drew ?_ | refine blk_alloc ?_ _)); exact BK361.out)) (below_size (by repeat (first | (with_reducible first | exact HB.out | apply below_alloc | apply pw_below_drewN | apply below_drew1 | refine below_set ?_ GE361.out) | exact HB.out)))); have n2_ := Aside0.mk (blk_below (g := gb361) (o := .cells #[.string ((rd_T25 l1 x15_1).f0), .int .u64 ((rd_T25 l1 x15_1).f1), .int .u64 ((rd_T25 l1 x15_1).f2)] 25 (0, 0)) (by (with_reducible repeat (first | refine blk_drewN ?_ _ | refine blk_drew ?_ | refine blk_alloc ?_ _)); exact BK361.out) hb); have n3_ := Aside0.mk (below_step (by repeat (first | (with_reducible first | exact HB.out | apply below_alloc | apply pw_below_drewN | apply below_drew1 | refine below_set ?_ GE361.out) | exact HB.out)) hb); clear HO_6; clear BK361; clear HB; have HO_6 := n0_; have HO365 := n1_; have BK361 := n2_; have HB := n3_; clear n0_ n1_ n2_ n3_; (try clear hb); (try clear hb2); (try clear hk); (try clear hi); (try clear ho0)))
                go_roundg k1
                case measure => have := HK1.out; omega
                case rel => exact ⟨(t363), (wrap64 (x15_1 + 1)), (by first | rfl | (simp; done) | (simp [*]; done)), H', ⟨by have := HK1.out; omega⟩, ⟨by (with_reducible repeat (first | apply Kd.R_alloc | apply Kd.R_drewN | apply Kd.R_drew)); exact Kd.R_mono HO365.out (fun _ hk => trivial)⟩, ⟨by repeat (first | (with_reducible first | exact HB.out | apply below_alloc | apply pw_below_drewN | apply below_drew1 | refine below_set ?_ GE361.out) | exact HB.out)⟩⟩
              · rw [if_neg c9] at H
                exact absurd H (by simp)
            · rw [if_neg c7] at H
              exact absurd H (by simp)
          · rw [if_neg c6] at H
            exact absurd H (by simp)
        · rw [if_neg c5] at H
          have c5b0 : decide (x15_1 < (l1.length : Int)) = false := decide_eq_false c5
          clear c5
          simp only [Option.some.injEq, Prod.mk.injEq] at H
          obtain ⟨rfl, rfl⟩ := H
          go_wp2
          go_ret2
          exact ⟨_, by first | rfl | (simp [errW_none, errW_some] <;> rfl) | (simp [*, errW_none, errW_some] <;> rfl), by (with_reducible repeat (first | apply Kd.R_alloc | apply Kd.R_drewN | apply Kd.R_drew)); exact HO_6.out, by repeat (first | (with_reducible first | exact HB.out | apply below_alloc | apply pw_below_drewN | apply below_drew1) | exact HB.out)⟩
  · replace c4 := Bool.eq_false_iff.mpr c4
    subst c4
    have H1 : (none) = some (r1, r2) := by rw [if_neg (show ¬ (false = true) by decide)] at H; exact H
    clear H
    have H := H1
    clear H1
    exact absurd H (by simp)

/-! ### keep_Cut: function 16 -/
def keep_Cut.f (k : Nat) (a0 : Int) (l1 : List (S25)) (a2 : Int) : Option ((List (S25)) × Int) := (keep_Right.f k a0 l1).bind fun t366 => (if t366 = true then (if a2 < 1 then (some (([] : List (S25)), 1)) else (if a2 > a0 then (some (([] : List (S25)), 1)) else (if 0 ≤ (mn (l1.length : Int) (wrap64 (a2 + 1))) then (if (mn (l1.length : Int) (wrap64 (a2 + 1))) ≤ (l1.length : Int) then ((api_Item_19.f (l1.take ((mn (l1.length : Int) (wrap64 (a2 + 1))) : Int).toNat)).bind fun t371 => (some (t371, 0))) else (none)) else (none)))) else (none))
theorem keep_Cut.mono : ∀ a0 a1 a2 k, LeO (keep_Cut.f k a0 a1 a2) (keep_Cut.f (k + 1) a0 a1 a2) := by
  intro a0 a1 a2 k
  unfold keep_Cut.f
  repeat' first
      | (with_reducible exact keep_Right.mono _ _ _)
      | (with_reducible exact LeO.refl _)
      | (with_reducible exact LeO.none _)
      | (with_reducible refine LeO.ite ?_ ?_)
      | (with_reducible refine LeO.bind ?_ (fun _ => ?_))
      | exact keep_Right.mono _ _ _
      | exact LeO.none _
      | refine LeO.ite ?_ ?_
      | refine LeO.bind ?_ (fun _ => ?_)
set_option maxHeartbeats 8000000 in
set_option maxRecDepth 100000 in
theorem keep_Cut.calls (k : Nat) (a0 : Int) (A1 : Option Addr) (c1 : Nat) (l1 : List (S25)) (a2 : Int) (r1 : List (S25)) (r2 : Int) (w : World) (hr1 : Kd.C k25 w A1 l1.length l1) (hc1 : l1.length ≤ c1) (h : keep_Cut.f k a0 l1 a2 = some (r1, r2)) :
    Calls Tryd.prog 16 #[.int .i64 a0, .slice A1 l1.length c1, .int .i64 a2] w fun e w' => ∃ v0_ : Value, e = .returned (.tuple #[v0_, .int .i64 r2]) ∧ Kd.R k25 25 w' w.heap.size (fun _ => True) v0_ r1 ∧ Below w.heap.size w w' := by
  have HR1 := Aside0.mk hr1
  have HC1 := Aside0.mk hc1
  clear hr1 hc1
  have HB := Aside0.mk (Below.refl w.heap.size w)
  have H : ((keep_Right.f k a0 l1).bind fun t366 => (if t366 = true then (if a2 < 1 then (some (([] : List (S25)), 1)) else (if a2 > a0 then (some (([] : List (S25)), 1)) else (if 0 ≤ (mn (l1.length : Int) (wrap64 (a2 + 1))) then (if (mn (l1.length : Int) (wrap64 (a2 + 1))) ≤ (l1.length : Int) then ((api_Item_19.f (l1.take ((mn (l1.length : Int) (wrap64 (a2 + 1))) : Int).toNat)).bind fun t371 => (some (t371, 0))) else (none)) else (none)))) else (none))) = some (r1, r2) := h
  clear h
  replace H := Option.bind_eq_some_iff.mp H
  obtain ⟨t366, A40, H⟩ := H
  replace H : (if t366 = true then (if a2 < 1 then (some (([] : List (S25)), 1)) else (if a2 > a0 then (some (([] : List (S25)), 1)) else (if 0 ≤ (mn (l1.length : Int) (wrap64 (a2 + 1))) then (if (mn (l1.length : Int) (wrap64 (a2 + 1))) ≤ (l1.length : Int) then ((api_Item_19.f (l1.take ((mn (l1.length : Int) (wrap64 (a2 + 1))) : Int).toNat)).bind fun t371 => (some (t371, 0))) else (none)) else (none)))) else (none)) = some (r1, r2) := H
  have A4 := Aside0.mk A40
  clear A40
  by_cases c5 : t366 = true
  · subst c5
    have H1 : (if a2 < 1 then (some (([] : List (S25)), 1)) else (if a2 > a0 then (some (([] : List (S25)), 1)) else (if 0 ≤ (mn (l1.length : Int) (wrap64 (a2 + 1))) then (if (mn (l1.length : Int) (wrap64 (a2 + 1))) ≤ (l1.length : Int) then ((api_Item_19.f (l1.take ((mn (l1.length : Int) (wrap64 (a2 + 1))) : Int).toNat)).bind fun t371 => (some (t371, 0))) else (none)) else (none)))) = some (r1, r2) := by rw [if_pos rfl] at H; exact H
    clear H
    have H := H1
    clear H1
    by_cases c6 : a2 < 1
    · rw [if_pos c6] at H
      have c6b0 : decide (a2 < 1) = true := decide_eq_true c6
      clear c6
      simp only [Option.some.injEq, Prod.mk.injEq] at H
      obtain ⟨rfl, rfl⟩ := H
      go_enter Tryd.func16, Tryd.ntmps16
      go_wp2_with (first | ((with_reducible refine gate_callee (f := 5) rfl ?_); refine goesL_ (some 10) rfl rfl Tryd.func5 (by kernel_rfl) rfl #[.int .i64 a0, .slice A1 l1.length c1] rfl (by (try simp only [List.map_toArray, List.map_cons, List.map_nil]); first | done | rfl | (simp only [List.length_drop, List.length_take]; rfl)) ?_; (with_reducible refine (keep_Right.calls k a0 _ _ l1 true _ ?side1 ?side2 A4.out).mono ?_); (case side1 => repeat (first | exact HR1.out | (with_reducible refine Kd.C_alloc ?_ _) | (with_reducible refine Kd.C_drewN ?_ _) | (with_reducible refine Kd.C_drew ?_))); (case side2 => exact HC1.out); rintro e w7 ⟨rfl, hb⟩; refine ⟨_, rfl, ?_⟩; have n0_ := Aside0.mk (below_step (by repeat (first | (with_reducible first | exact HB.out | apply below_alloc | apply pw_below_drewN | apply below_drew1) | exact HB.out)) hb); clear HB; have HB := n0_; clear n0_; (try clear hb); (try clear hb2); (try clear hk); (try clear hi)))
      go_ret2
      exact ⟨_, by first | rfl | (simp [errW_none, errW_some] <;> rfl) | (simp [*, errW_none, errW_some] <;> rfl), by first | exact Kd.R_nil _ _ _ _ _ | exact Kd.N_nil _ _ _ _ _ | exact Kd.V_nil _ _ _ _ _ | exact Kd.Q_nil _ _ _ _ _ | exact Kd.S_nil _ _ _ _ _, by repeat (first | (with_reducible first | exact HB.out | apply below_alloc | apply pw_below_drewN | apply below_drew1) | exact HB.out)⟩
    · rw [if_neg c6] at H
      have c6b0 : decide (a2 < 1) = false := decide_eq_false c6
      clear c6
      by_cases c8 : a2 > a0
      · rw [if_pos c8] at H
        have c8b0 : decide (a0 < a2) = true := decide_eq_true c8
        clear c8
        simp only [Option.some.injEq, Prod.mk.injEq] at H
        obtain ⟨rfl, rfl⟩ := H
        go_enter Tryd.func16, Tryd.ntmps16
        go_wp2_with (first | ((with_reducible refine gate_callee (f := 5) rfl ?_); refine goesL_ (some 10) rfl rfl Tryd.func5 (by kernel_rfl) rfl #[.int .i64 a0, .slice A1 l1.length c1] rfl (by (try simp only [List.map_toArray, List.map_cons, List.map_nil]); first | done | rfl | (simp only [List.length_drop, List.length_take]; rfl)) ?_; (with_reducible refine (keep_Right.calls k a0 _ _ l1 true _ ?side1 ?side2 A4.out).mono ?_); (case side1 => repeat (first | exact HR1.out | (with_reducible refine Kd.C_alloc ?_ _) | (with_reducible refine Kd.C_drewN ?_ _) | (with_reducible refine Kd.C_drew ?_))); (case side2 => exact HC1.out); rintro e w9 ⟨rfl, hb⟩; refine ⟨_, rfl, ?_⟩; have n0_ := Aside0.mk (below_step (by repeat (first | (with_reducible first | exact HB.out | apply below_alloc | apply pw_below_drewN | apply below_drew1) | exact HB.out)) hb); clear HB; have HB := n0_; clear n0_; (try clear hb); (try clear hb2); (try clear hk); (try clear hi)))
        go_ret2
        exact ⟨_, by first | rfl | (simp [errW_none, errW_some] <;> rfl) | (simp [*, errW_none, errW_some] <;> rfl), by first | exact Kd.R_nil _ _ _ _ _ | exact Kd.N_nil _ _ _ _ _ | exact Kd.V_nil _ _ _ _ _ | exact Kd.Q_nil _ _ _ _ _ | exact Kd.S_nil _ _ _ _ _, by repeat (first | (with_reducible first | exact HB.out | apply below_alloc | apply pw_below_drewN | apply below_drew1) | exact HB.out)⟩
      · rw [if_neg c8] at H
        have c8b0 : decide (a0 < a2) = false := decide_eq_false c8
        clear c8
        obtain ⟨ji10, hji10⟩ : ∃ j_ : Int, (mn (l1.length : Int) (wrap64 (a2 + 1))) = j_ := ⟨_, rfl⟩
        replace H : (if 0 ≤ (ji10) then (if (ji10) ≤ (l1.length : Int) then ((api_Item_19.f (l1.take ((ji10) : Int).toNat)).bind fun t371 => (some (t371, 0))) else (none)) else (none)) = some (r1, r2) := by first | (rw [hji10] at H; exact H) | (simp only [hji10] at H ⊢; exact H)
        (try rw [hji10] at A4)
        have hji10_ : (if (wrap64 (a2 + 1)) < (l1.length : Int) then (wrap64 (a2 + 1)) else (l1.length : Int)) = ji10 := hji10
        by_cases c11 : 0 ≤ (ji10)
        · rw [if_pos c11] at H
          have c11b0 := eq_true c11
          have c11b1 : decide (0 ≤ (ji10)) = true := decide_eq_true c11
          clear c11
          by_cases c12 : (ji10) ≤ (l1.length : Int)
          · rw [if_pos c12] at H
            have c12b0 := eq_true c12
            have c12b1 : decide ((ji10) ≤ (l1.length : Int)) = true := decide_eq_true c12
            clear c12
            obtain ⟨y367, hy367⟩ : ∃ y_ : List (S25), y_ = (l1.take ((ji10) : Int).toNat) := ⟨_, rfl⟩
            replace H : ((api_Item_19.f y367).bind fun t371 => (some (t371, 0))) = some (r1, r2) := by first | (rw [hy367]; with_reducible exact H) | (have H2_ := (Option.bind_some _ _).symm.trans H; rw [hy367]; with_reducible exact H2_) | (have H2_ := (Option.bind_some _ _).symm.trans H; with_reducible exact H2_) | with_reducible exact H | (rw [hy367]; exact H) | exact H
            have Ny367 := Aside0.mk hy367
            clear hy367
            replace H := Option.bind_eq_some_iff.mp H
            obtain ⟨t371, A130, H⟩ := H
            replace H : (some (t371, 0)) = some (r1, r2) := H
            have A13 := Aside0.mk A130
            clear A130
            simp only [Option.some.injEq, Prod.mk.injEq] at H
            obtain ⟨rfl, rfl⟩ := H
            go_enter Tryd.func16, Tryd.ntmps16
            go_wp2_with (first | ((with_reducible refine gate_callee (f := 5) rfl ?_); refine goesL_ (some 10) rfl rfl Tryd.func5 (by kernel_rfl) rfl #[.int .i64 a0, .slice A1 l1.length c1] rfl (by (try simp only [List.map_toArray, List.map_cons, List.map_nil]); first | done | rfl | (simp only [List.length_drop, List.length_take]; rfl)) ?_; (with_reducible refine (keep_Right.calls k a0 _ _ l1 true _ ?side1 ?side2 A4.out).mono ?_); (case side1 => repeat (first | exact HR1.out | (with_reducible refine Kd.C_alloc ?_ _) | (with_reducible refine Kd.C_drewN ?_ _) | (with_reducible refine Kd.C_drew ?_))); (case side2 => exact HC1.out); rintro e w14 ⟨rfl, hb⟩; refine ⟨_, rfl, ?_⟩; have n0_ := Aside0.mk (below_step (by repeat (first | (with_reducible first | exact HB.out | apply below_alloc | apply pw_below_drewN | apply below_drew1) | exact HB.out)) hb); clear HB; have HB := n0_; clear n0_; (try clear hb); (try clear hb2); (try clear hk); (try clear hi); have q15 : ((ji10) : Int) ≤ ((l1.length : Int) : Int) := of_decide_eq_true (by first | (with_reducible assumption) | assumption); obtain ⟨i015, hi015, _, hsz15, _⟩ := info_parts info25; have hroom15 : l1.length ≤ c1 := HC1.out; have hC15 : Kd.C k25 _ A1 l1.length l1 := HR1.out; have hcut15 := cut_to (P := Tryd.prog) 22 25 .i64 Tryd.underlying22 hi015 A1 l1.length c1 (ji10) (of_decide_eq_true (by first | (with_reducible assumption) | assumption)) q15 hroom15; have hr15 := Kd.C_take (m := ((ji10) : Int).toNat) hC15 (by omega); have hy15 : y367.length = ((ji10) : Int).toNat := (by rw [Ny367.out, List.length_take]; omega); rw [← Ny367.out] at hr15; rw [← hy15] at hcut15; have HR370 := Aside0.mk hr15; have HC370 := Aside0.mk (show y367.length ≤ c1 from by omega); clear hr15 hC15 hroom15 hi015 hsz15; have KY15 := Aside0.mk hy15; clear hy15; replace q15 := eq_true q15) | ((with_reducible refine gate_callee (f := 19) rfl ?_); refine goesL_ (some 28) rfl rfl Tryd.func19 (by kernel_rfl) rfl #[.slice A1 y367.length c1] rfl (by (try simp only [List.map_toArray, List.map_cons, List.map_nil]); first | done | rfl | (simp only [List.length_drop, List.length_take]; rfl)) ?_; (with_reducible refine (api_Item_19.calls _ _ y367 t371 _ ?side1 ?side2 A13.out).mono ?_); (case side1 => repeat (first | exact (Kd.C_below HR370.out HB.out) | (with_reducible refine Kd.C_alloc ?_ _) | (with_reducible refine Kd.C_drewN ?_ _) | (with_reducible refine Kd.C_drew ?_))); (case side2 => exact HC370.out); rintro e w16 ⟨v372, rfl, ho0, hb⟩; refine ⟨_, rfl, ?_⟩; have n0_ := Aside0.mk (Kd.R_lower ho0 (below_size (by repeat (first | (with_reducible first | exact HB.out | apply below_alloc | apply pw_below_drewN | apply below_drew1) | exact HB.out)))); have n1_ := Aside0.mk (below_step (by repeat (first | (with_reducible first | exact HB.out | apply below_alloc | apply pw_below_drewN | apply below_drew1) | exact HB.out)) hb); clear HB; have HO373 := n0_; have HB := n1_; clear n0_ n1_; (try clear hb); (try clear hb2); (try clear hk); (try clear hi); (try clear ho0)))
            go_ret2
            exact ⟨_, by first | rfl | (simp [errW_none, errW_some] <;> rfl) | (simp only [← hji10]; first | rfl | (simp [errW_none, errW_some] <;> rfl)) | (simp [*, errW_none, errW_some] <;> rfl), by (with_reducible repeat (first | apply Kd.R_alloc | apply Kd.R_drewN | apply Kd.R_drew)); exact HO373.out, by repeat (first | (with_reducible first | exact HB.out | apply below_alloc | apply pw_below_drewN | apply below_drew1) | exact HB.out)⟩
          · rw [if_neg c12] at H
            exact absurd H (by simp)
        · rw [if_neg c11] at H
          exact absurd H (by simp)
  · replace c5 := Bool.eq_false_iff.mpr c5
    subst c5
    have H1 : (none) = some (r1, r2) := by rw [if_neg (show ¬ (false = true) by decide)] at H; exact H
    clear H
    have H := H1
    clear H1
    exact absurd H (by simp)

/-! ### nat_Cmp: function 24 -/
def nat_Cmp.f (k : Nat) (l0 : List Int) (l1 : List Int) : Option (Int) := (nat_Right.f l0).bind fun t374 => (if t374 = true then ((nat_Right.f l1).bind fun t375 => (if t375 = true then ((nat_order.f k l0 l1).bind fun t376 => (some t376)) else (none))) else (none))
theorem nat_Cmp.mono : ∀ a0 a1 k, LeO (nat_Cmp.f k a0 a1) (nat_Cmp.f (k + 1) a0 a1) := by
  intro a0 a1 k
  unfold nat_Cmp.f
  repeat' first
      | (with_reducible exact nat_order.mono _ _ _)
      | (with_reducible exact LeO.refl _)
      | (with_reducible exact LeO.none _)
      | (with_reducible refine LeO.ite ?_ ?_)
      | (with_reducible refine LeO.bind ?_ (fun _ => ?_))
      | exact nat_order.mono _ _ _
      | exact LeO.none _
      | refine LeO.ite ?_ ?_
      | refine LeO.bind ?_ (fun _ => ?_)
set_option maxHeartbeats 8000000 in
set_option maxRecDepth 100000 in
theorem nat_Cmp.calls (k : Nat) (A0 : Option Addr) (c0 : Nat) (l0 : List Int) (A1 : Option Addr) (c1 : Nat) (l1 : List Int) (r : Int) (w : World) (hr0 : Kd.C (Kd.int .u32) w A0 l0.length l0) (hc0 : l0.length ≤ c0) (hr1 : Kd.C (Kd.int .u32) w A1 l1.length l1) (hc1 : l1.length ≤ c1) (h : nat_Cmp.f k l0 l1 = some r) :
    Calls Tryd.prog 24 #[.slice A0 l0.length c0, .slice A1 l1.length c1] w fun e w' => e = .returned (.int .i64 r) ∧ Below w.heap.size w w' := by
  have HR0 := Aside0.mk hr0
  have HC0 := Aside0.mk hc0
  clear hr0 hc0
  have HR1 := Aside0.mk hr1
  have HC1 := Aside0.mk hc1
  clear hr1 hc1
  have HB := Aside0.mk (Below.refl w.heap.size w)
  have H : ((nat_Right.f l0).bind fun t374 => (if t374 = true then ((nat_Right.f l1).bind fun t375 => (if t375 = true then ((nat_order.f k l0 l1).bind fun t376 => (some t376)) else (none))) else (none))) = some r := h
  clear h
  replace H := Option.bind_eq_some_iff.mp H
  obtain ⟨t374, A30, H⟩ := H
  replace H : (if t374 = true then ((nat_Right.f l1).bind fun t375 => (if t375 = true then ((nat_order.f k l0 l1).bind fun t376 => (some t376)) else (none))) else (none)) = some r := H
  have A3 := Aside0.mk A30
  clear A30
  by_cases c4 : t374 = true
  · subst c4
    have H1 : ((nat_Right.f l1).bind fun t375 => (if t375 = true then ((nat_order.f k l0 l1).bind fun t376 => (some t376)) else (none))) = some r := by rw [if_pos rfl] at H; exact H
    clear H
    have H := H1
    clear H1
    replace H := Option.bind_eq_some_iff.mp H
    obtain ⟨t375, A50, H⟩ := H
    replace H : (if t375 = true then ((nat_order.f k l0 l1).bind fun t376 => (some t376)) else (none)) = some r := H
    have A5 := Aside0.mk A50
    clear A50
    by_cases c6 : t375 = true
    · subst c6
      have H1 : ((nat_order.f k l0 l1).bind fun t376 => (some t376)) = some r := by rw [if_pos rfl] at H; exact H
      clear H
      have H := H1
      clear H1
      replace H := Option.bind_eq_some_iff.mp H
      obtain ⟨t376, A70, H⟩ := H
      replace H : (some t376) = some r := H
      have A7 := Aside0.mk A70
      clear A70
      obtain rfl := Option.some.inj H
      go_enter Tryd.func24, Tryd.ntmps24
      go_wp2_with (first | ((with_reducible refine gate_callee (f := 36) rfl ?_); refine goesL_ (some 6) rfl rfl Tryd.func36 (by kernel_rfl) rfl #[.slice A0 l0.length c0] rfl (by (try simp only [List.map_toArray, List.map_cons, List.map_nil]); first | done | rfl | (simp only [List.length_drop, List.length_take]; rfl)) ?_; (with_reducible refine (nat_Right.calls _ _ l0 true _ ?side1 ?side2 A3.out).mono ?_); (case side1 => repeat (first | exact HR0.out | (with_reducible refine Kd.C_alloc ?_ _) | (with_reducible refine Kd.C_drewN ?_ _) | (with_reducible refine Kd.C_drew ?_))); (case side2 => exact HC0.out); rintro e w' ⟨rfl, ⟨nd, rfl⟩⟩; refine ⟨_, rfl, ?_⟩) | (go_at_call 36; (with_reducible refine (nat_Right.calls _ _ l1 true _ ?side1 ?side2 A5.out).mono ?_); (case side1 => repeat (first | exact HR1.out | (with_reducible refine Kd.C_alloc ?_ _) | (with_reducible refine Kd.C_drewN ?_ _) | (with_reducible refine Kd.C_drew ?_))); (case side2 => exact HC1.out); rintro e w' ⟨rfl, ⟨nd, rfl⟩⟩) | ((with_reducible refine gate_callee (f := 40) rfl ?_); refine goesL_ (some 15) rfl rfl Tryd.func40 (by kernel_rfl) rfl #[.slice A0 l0.length c0, .slice A1 l1.length c1] rfl (by (try simp only [List.map_toArray, List.map_cons, List.map_nil]); first | done | rfl | (simp only [List.length_drop, List.length_take]; rfl)) ?_; (with_reducible refine (nat_order.calls k _ _ l0 _ _ l1 t376 _ ?side1 ?side2 ?side3 ?side4 A7.out).mono ?_); (case side1 => repeat (first | exact HR0.out | (with_reducible refine Kd.C_alloc ?_ _) | (with_reducible refine Kd.C_drewN ?_ _) | (with_reducible refine Kd.C_drew ?_))); (case side2 => exact HC0.out); (case side3 => repeat (first | exact HR1.out | (with_reducible refine Kd.C_alloc ?_ _) | (with_reducible refine Kd.C_drewN ?_ _) | (with_reducible refine Kd.C_drew ?_))); (case side4 => exact HC1.out); rintro e w8 ⟨rfl, hb⟩; refine ⟨_, rfl, ?_⟩; have n0_ := Aside0.mk (below_step (by repeat (first | (with_reducible first | exact HB.out | apply below_alloc | apply pw_below_drewN | apply below_drew1) | exact HB.out)) hb); clear HB; have HB := n0_; clear n0_; (try clear hb); (try clear hb2); (try clear hk); (try clear hi)))
      go_ret
      exact ⟨by first | rfl | (simp [errW_none, errW_some] <;> rfl) | (simp [*, errW_none, errW_some] <;> rfl), by repeat (first | (with_reducible first | exact HB.out | apply below_alloc | apply pw_below_drewN | apply below_drew1) | exact HB.out)⟩
    · replace c6 := Bool.eq_false_iff.mpr c6
      subst c6
      have H1 : (none) = some r := by rw [if_neg (show ¬ (false = true) by decide)] at H; exact H
      clear H
      have H := H1
      clear H1
      exact absurd H (by simp)
  · replace c4 := Bool.eq_false_iff.mpr c4
    subst c4
    have H1 : (none) = some r := by rw [if_neg (show ¬ (false = true) by decide)] at H; exact H
    clear H
    have H := H1
    clear H1
    exact absurd H (by simp)

/-! ### rat_one: function 45 -/
def rat_one.f (k : Nat)  : Option (List Int) := (nat_Of.f k 1).bind fun t377 => (some t377)
theorem rat_one.mono : ∀ k, LeO (rat_one.f k ) (rat_one.f (k + 1) ) := by
  intro  k
  unfold rat_one.f
  repeat' first
      | (with_reducible exact nat_Of.mono _ _)
      | (with_reducible exact LeO.refl _)
      | (with_reducible exact LeO.none _)
      | (with_reducible refine LeO.ite ?_ ?_)
      | (with_reducible refine LeO.bind ?_ (fun _ => ?_))
      | exact nat_Of.mono _ _
      | exact LeO.none _
      | refine LeO.ite ?_ ?_
      | refine LeO.bind ?_ (fun _ => ?_)
set_option maxHeartbeats 8000000 in
set_option maxRecDepth 100000 in
theorem rat_one.calls (k : Nat)  (r : List Int) (w : World) (h : rat_one.f k  = some r) :
    Calls Tryd.prog 45 #[] w fun e w' => ∃ v0_ : Value, e = .returned (v0_) ∧ Kd.R (Kd.int .u32) 76 w' w.heap.size (fun _ => True) v0_ r ∧ Below w.heap.size w w' := by
  have HB := Aside0.mk (Below.refl w.heap.size w)
  have H : ((nat_Of.f k 1).bind fun t377 => (some t377)) = some r := h
  clear h
  replace H := Option.bind_eq_some_iff.mp H
  obtain ⟨t377, A10, H⟩ := H
  replace H : (some t377) = some r := H
  have A1 := Aside0.mk A10
  clear A10
  obtain rfl := Option.some.inj H
  go_enter Tryd.func45, Tryd.ntmps45
  go_wp2_with (first | ((with_reducible refine gate_callee (f := 21) rfl ?_); refine goesL_ (some 1) rfl rfl Tryd.func21 (by kernel_rfl) rfl #[.int .u64 1] rfl (by (try simp only [List.map_toArray, List.map_cons, List.map_nil]); first | done | rfl | (simp only [List.length_drop, List.length_take]; rfl)) ?_; (with_reducible refine (nat_Of.calls k 1 t377 _ A1.out).mono ?_); rintro e w2 ⟨v378, rfl, ho0, hb⟩; refine ⟨_, rfl, ?_⟩; have n0_ := Aside0.mk (Kd.R_lower ho0 (below_size (by repeat (first | (with_reducible first | exact HB.out | apply below_alloc | apply pw_below_drewN | apply below_drew1) | exact HB.out)))); have n1_ := Aside0.mk (below_step (by repeat (first | (with_reducible first | exact HB.out | apply below_alloc | apply pw_below_drewN | apply below_drew1) | exact HB.out)) hb); clear HB; have HO379 := n0_; have HB := n1_; clear n0_ n1_; (try clear hb); (try clear hb2); (try clear hk); (try clear hi); (try clear ho0)))
  go_ret
  exact ⟨_, by first | rfl | (simp [errW_none, errW_some] <;> rfl) | (simp [*, errW_none, errW_some] <;> rfl), by (with_reducible repeat (first | apply Kd.R_alloc | apply Kd.R_drewN | apply Kd.R_drew)); exact HO379.out, by repeat (first | (with_reducible first | exact HB.out | apply below_alloc | apply pw_below_drewN | apply below_drew1) | exact HB.out)⟩

/-! ### rat_Right: function 29 -/
def rat_Right.f (k : Nat) (l0_0 : List Int) (l0_1 : List Int) : Option (Bool) := (nat_Gcd.f k l0_0 l0_1).bind fun bt381 => (if bt381.2 = 0 then (if (l0_1.length : Int) > 0 then ((rat_one.f k).bind fun t385 => ((nat_Cmp.f k bt381.1 t385).bind fun t388 => (some (t388 == 0)))) else (some false)) else (some false))
theorem rat_Right.mono : ∀ a0 a1 k, LeO (rat_Right.f k a0 a1) (rat_Right.f (k + 1) a0 a1) := by
  intro a0 a1 k
  unfold rat_Right.f
  repeat' first
      | (with_reducible exact nat_Cmp.mono _ _ _)
      | (with_reducible exact nat_Gcd.mono _ _ _)
      | (with_reducible exact rat_one.mono _)
      | (with_reducible exact LeO.refl _)
      | (with_reducible exact LeO.none _)
      | (with_reducible refine LeO.ite ?_ ?_)
      | (with_reducible refine LeO.bind ?_ (fun _ => ?_))
      | exact nat_Cmp.mono _ _ _
      | exact nat_Gcd.mono _ _ _
      | exact rat_one.mono _
      | exact LeO.none _
      | refine LeO.ite ?_ ?_
      | refine LeO.bind ?_ (fun _ => ?_)
set_option maxHeartbeats 8000000 in
set_option maxRecDepth 100000 in
theorem rat_Right.calls (k : Nat) (A0_0 : Option Addr) (c0_0 : Nat) (l0_0 : List Int) (A0_1 : Option Addr) (c0_1 : Nat) (l0_1 : List Int) (r : Bool) (w : World) (hr0_0 : Kd.C (Kd.int .u32) w A0_0 l0_0.length l0_0) (hc0_0 : l0_0.length ≤ c0_0) (hr0_1 : Kd.C (Kd.int .u32) w A0_1 l0_1.length l0_1) (hc0_1 : l0_1.length ≤ c0_1) (h : rat_Right.f k l0_0 l0_1 = some r) :
    Calls Tryd.prog 29 #[.agg #[.slice A0_0 l0_0.length c0_0, .slice A0_1 l0_1.length c0_1]] w fun e w' => e = .returned (.bool r) ∧ Below w.heap.size w w' := by
  have hu34 := Tryd.underlying34
  have HR0_0 := Aside0.mk hr0_0
  have HC0_0 := Aside0.mk hc0_0
  clear hr0_0 hc0_0
  have HR0_1 := Aside0.mk hr0_1
  have HC0_1 := Aside0.mk hc0_1
  clear hr0_1 hc0_1
  have HB := Aside0.mk (Below.refl w.heap.size w)
  have H : ((nat_Gcd.f k l0_0 l0_1).bind fun bt381 => (if bt381.2 = 0 then (if (l0_1.length : Int) > 0 then ((rat_one.f k).bind fun t385 => ((nat_Cmp.f k bt381.1 t385).bind fun t388 => (some (t388 == 0)))) else (some false)) else (some false))) = some r := h
  clear h
  replace H := Option.bind_eq_some_iff.mp H
  obtain ⟨⟨t381, t384⟩, A20, H⟩ := H
  replace H : (if t384 = 0 then (if (l0_1.length : Int) > 0 then ((rat_one.f k).bind fun t385 => ((nat_Cmp.f k t381 t385).bind fun t388 => (some (t388 == 0)))) else (some false)) else (some false)) = some r := H
  have A2 := Aside0.mk A20
  clear A20
  by_cases c3 : t384 = 0
  · rw [if_pos c3] at H
    have c3b0 : (t384 == 0) = true := beq_iff_eq.mpr c3
    have c3b1 : (t384 != 0) = false := bne_eq_false_iff_eq.mpr c3
    clear c3
    by_cases c4 : (l0_1.length : Int) > 0
    · rw [if_pos c4] at H
      have c4b0 : decide (0 < (l0_1.length : Int)) = true := decide_eq_true c4
      have c4b1 : decide (0 < l0_1.length) = true := decide_eq_true (by omega)
      clear c4
      replace H := Option.bind_eq_some_iff.mp H
      obtain ⟨t385, A50, H⟩ := H
      replace H : ((nat_Cmp.f k t381 t385).bind fun t388 => (some (t388 == 0))) = some r := H
      have A5 := Aside0.mk A50
      clear A50
      replace H := Option.bind_eq_some_iff.mp H
      obtain ⟨t388, A60, H⟩ := H
      replace H : (some (t388 == 0)) = some r := H
      have A6 := Aside0.mk A60
      clear A60
      obtain rfl := Option.some.inj H
      go_enter Tryd.func29, Tryd.ntmps29
      go_wp2_with (first | ((with_reducible refine gate_dst (N := 1) rfl ?_); (try (refine gate_guard (by rfl) ?_; dsimp only)); refine box_event ?hg (N := 1) ?hd (cs := #[.slice A0_0 l0_0.length c0_0, .slice A0_1 l0_1.length c0_1]) (t := 34) ?hr ?_; (case hd => rfl); (case hg => rfl); (case hr => first | (go_simp; done) | (go_simp; rfl)); intro gb380 hg w7 hbox hb; have n0_ := Aside0.mk (below_step (by repeat (first | (with_reducible first | exact HB.out | apply below_alloc | apply pw_below_drewN | apply below_drew1) | exact HB.out)) hb); have n1_ := Aside0.mk (hbox); have n2_ := Aside0.mk ((by rw [hg]; exact (below_size (by repeat (first | (with_reducible first | exact HB.out | apply below_alloc | apply pw_below_drewN | apply below_drew1) | exact HB.out))) : w.heap.size ≤ gb380)); have n3_ := Aside0.mk ((by rw [hg]; exact (below_size (by repeat (first | (with_reducible first | exact HB.out | apply below_alloc | apply pw_below_drewN | apply below_drew1) | exact HB.out))) : w.heap.size ≤ gb380)); clear HB; have HB := n0_; have BK380 := n1_; have GW380 := n2_; have GE380 := n3_; clear n0_ n1_ n2_ n3_; clear hb hbox hg; have hcz8_0 : w7.cell? ⟨gb380, 0, none⟩ = some (.slice A0_0 l0_0.length c0_0) := (blk_cell BK380.out 0).trans rfl; have hcz8_1 : w7.cell? ⟨gb380, 1, none⟩ = some (.slice A0_1 l0_1.length c0_1) := (blk_cell BK380.out 1).trans rfl; have hfz8_0 := blk_frozen BK380.out 0; have hfz8_1 := blk_frozen BK380.out 1) | ((with_reducible refine gate_callee (f := 44) rfl ?_); refine goesL_ (some 10) rfl rfl Tryd.func44 (by kernel_rfl) rfl #[.slice A0_0 l0_0.length c0_0, .slice A0_1 l0_1.length c0_1] rfl (by (try simp only [List.map_toArray, List.map_cons, List.map_nil]); first | done | rfl | (simp only [List.length_drop, List.length_take]; rfl)) ?_; (with_reducible refine (nat_Gcd.calls k (fun k_ => k_ < w.heap.size) _ _ l0_0 (fun k_ => k_ < w.heap.size) _ _ l0_1 t381 t384 _ ?side1 ?side2 A2.out).mono ?_); (case side1 => exact Kd.V_mk HC0_0.out (Kd.F_below (Kd.C_F (Kd.heap_int .u32) HR0_0.out) (by repeat (first | (with_reducible first | exact HB.out | apply below_alloc | apply pw_below_drewN | apply below_drew1 | refine below_set ?_ GE380.out) | exact HB.out)))); (case side2 => exact Kd.V_mk HC0_1.out (Kd.F_below (Kd.C_F (Kd.heap_int .u32) HR0_1.out) (by repeat (first | (with_reducible first | exact HB.out | apply below_alloc | apply pw_below_drewN | apply below_drew1 | refine below_set ?_ GE380.out) | exact HB.out)))); rintro e w9 ⟨v382, rfl, ho0, hb⟩; refine ⟨_, rfl, ?_⟩; have n0_ := Aside0.mk (Kd.R_lower (Kd.R_mono (ok' := fun k_ => True) ho0 (fun _ hk_ => trivial)) (below_size (by repeat (first | (with_reducible first | exact HB.out | apply below_alloc | apply pw_below_drewN | apply below_drew1 | refine below_set ?_ GE380.out) | exact HB.out)))); have n1_ := Aside0.mk (blk_below (g := gb380) (o := .cells #[.slice A0_0 l0_0.length c0_0, .slice A0_1 l0_1.length c0_1] 34 (0, 0)) (by (with_reducible repeat (first | refine blk_drewN ?_ _ | refine blk_drew ?_ | refine blk_alloc ?_ _)); exact BK380.out) hb); have n2_ := Aside0.mk (below_step (by repeat (first | (with_reducible first | exact HB.out | apply below_alloc | apply pw_below_drewN | apply below_drew1 | refine below_set ?_ GE380.out) | exact HB.out)) hb); clear BK380; clear HB; have HO383 := n0_; have BK380 := n1_; have HB := n2_; clear n0_ n1_ n2_; (try clear hb); (try clear hb2); (try clear hk); (try clear hi); (try clear ho0); have hcz10_0 : w9.cell? ⟨gb380, 0, none⟩ = some (.slice A0_0 l0_0.length c0_0) := (blk_cell BK380.out 0).trans rfl; have hcz10_1 : w9.cell? ⟨gb380, 1, none⟩ = some (.slice A0_1 l0_1.length c0_1) := (blk_cell BK380.out 1).trans rfl; have hfz10_0 := blk_frozen BK380.out 0; have hfz10_1 := blk_frozen BK380.out 1) | (go_at_call 45; (with_reducible refine (rat_one.calls k  t385 _ A5.out).mono ?_); rintro e w11 ⟨v386, rfl, ho0, hb⟩; have n0_ := Aside0.mk (Kd.R_elder' (by (with_reducible repeat (first | apply Kd.R_alloc | apply Kd.R_drewN | apply Kd.R_drew)); exact HO383.out) (Kd.R_base ho0) hb); have n1_ := Aside0.mk (Kd.R_lower (Kd.R_new' ho0 (Kd.R_lt (by (with_reducible repeat (first | apply Kd.R_alloc | apply Kd.R_drewN | apply Kd.R_drew)); exact HO383.out))) (below_size (by repeat (first | (with_reducible first | exact HB.out | apply below_alloc | apply pw_below_drewN | apply below_drew1 | refine below_set ?_ GE380.out) | exact HB.out)))); have n2_ := Aside0.mk (blk_below (g := gb380) (o := .cells #[.slice A0_0 l0_0.length c0_0, .slice A0_1 l0_1.length c0_1] 34 (0, 0)) (by (with_reducible repeat (first | refine blk_drewN ?_ _ | refine blk_drew ?_ | refine blk_alloc ?_ _)); exact BK380.out) hb); have n3_ := Aside0.mk (below_step (by repeat (first | (with_reducible first | exact HB.out | apply below_alloc | apply pw_below_drewN | apply below_drew1 | refine below_set ?_ GE380.out) | exact HB.out)) hb); clear HO383; clear BK380; clear HB; have HO383 := n0_; have HO387 := n1_; have BK380 := n2_; have HB := n3_; clear n0_ n1_ n2_ n3_; (try clear hb); (try clear hb2); (try clear hk); (try clear hi); (try clear ho0); obtain ⟨Ao12, co12, eo12⟩ := Kd.R_slice HO383.out; subst eo12; obtain ⟨Ao13, co13, eo13⟩ := Kd.R_slice HO387.out; subst eo13) | (go_at_call 24; (with_reducible refine (nat_Cmp.calls k _ _ t381 _ _ t385 t388 _ ?side1 ?side2 ?side3 ?side4 A6.out).mono ?_); (case side1 => repeat (first | exact (Kd.R_reads' HO383.out).2.2 | (with_reducible refine Kd.C_alloc ?_ _) | (with_reducible refine Kd.C_drewN ?_ _) | (with_reducible refine Kd.C_drew ?_))); (case side2 => exact (Kd.R_reads' HO383.out).2.1); (case side3 => repeat (first | exact (Kd.R_reads' HO387.out).2.2 | (with_reducible refine Kd.C_alloc ?_ _) | (with_reducible refine Kd.C_drewN ?_ _) | (with_reducible refine Kd.C_drew ?_))); (case side4 => exact (Kd.R_reads' HO387.out).2.1); rintro e w14 ⟨rfl, hb⟩; have n0_ := Aside0.mk (Kd.R_below (by (with_reducible repeat (first | apply Kd.R_alloc | apply Kd.R_drewN | apply Kd.R_drew)); exact HO383.out) hb); have n1_ := Aside0.mk (Kd.R_below (by (with_reducible repeat (first | apply Kd.R_alloc | apply Kd.R_drewN | apply Kd.R_drew)); exact HO387.out) hb); have n2_ := Aside0.mk (blk_below (g := gb380) (o := .cells #[.slice A0_0 l0_0.length c0_0, .slice A0_1 l0_1.length c0_1] 34 (0, 0)) (by (with_reducible repeat (first | refine blk_drewN ?_ _ | refine blk_drew ?_ | refine blk_alloc ?_ _)); exact BK380.out) hb); have n3_ := Aside0.mk (below_step (by repeat (first | (with_reducible first | exact HB.out | apply below_alloc | apply pw_below_drewN | apply below_drew1 | refine below_set ?_ GE380.out) | exact HB.out)) hb); clear HO383; clear HO387; clear BK380; clear HB; have HO383 := n0_; have HO387 := n1_; have BK380 := n2_; have HB := n3_; clear n0_ n1_ n2_ n3_; (try clear hb); (try clear hb2); (try clear hk); (try clear hi)))
      go_ret
      exact ⟨by first | rfl | (simp [errW_none, errW_some] <;> rfl) | (simp [*, errW_none, errW_some] <;> rfl), by repeat (first | (with_reducible first | exact HB.out | apply below_alloc | apply pw_below_drewN | apply below_drew1 | refine below_set ?_ GE380.out) | exact HB.out)⟩
    · rw [if_neg c4] at H
      have c4b0 : decide (0 < (l0_1.length : Int)) = false := decide_eq_false c4
      have c4b1 : decide (0 < l0_1.length) = false := decide_eq_false (by omega)
      clear c4
      obtain rfl := Option.some.inj H
      go_enter Tryd.func29, Tryd.ntmps29
      go_wp2_with (first | ((with_reducible refine gate_dst (N := 1) rfl ?_); (try (refine gate_guard (by rfl) ?_; dsimp only)); refine box_event ?hg (N := 1) ?hd (cs := #[.slice A0_0 l0_0.length c0_0, .slice A0_1 l0_1.length c0_1]) (t := 34) ?hr ?_; (case hd => rfl); (case hg => rfl); (case hr => first | (go_simp; done) | (go_simp; rfl)); intro gb380 hg w15 hbox hb; have n0_ := Aside0.mk (below_step (by repeat (first | (with_reducible first | exact HB.out | apply below_alloc | apply pw_below_drewN | apply below_drew1) | exact HB.out)) hb); have n1_ := Aside0.mk (hbox); have n2_ := Aside0.mk ((by rw [hg]; exact (below_size (by repeat (first | (with_reducible first | exact HB.out | apply below_alloc | apply pw_below_drewN | apply below_drew1) | exact HB.out))) : w.heap.size ≤ gb380)); have n3_ := Aside0.mk ((by rw [hg]; exact (below_size (by repeat (first | (with_reducible first | exact HB.out | apply below_alloc | apply pw_below_drewN | apply below_drew1) | exact HB.out))) : w.heap.size ≤ gb380)); clear HB; have HB := n0_; have BK380 := n1_; have GW380 := n2_; have GE380 := n3_; clear n0_ n1_ n2_ n3_; clear hb hbox hg; have hcz16_0 : w15.cell? ⟨gb380, 0, none⟩ = some (.slice A0_0 l0_0.length c0_0) := (blk_cell BK380.out 0).trans rfl; have hcz16_1 : w15.cell? ⟨gb380, 1, none⟩ = some (.slice A0_1 l0_1.length c0_1) := (blk_cell BK380.out 1).trans rfl; have hfz16_0 := blk_frozen BK380.out 0; have hfz16_1 := blk_frozen BK380.out 1) | ((with_reducible refine gate_callee (f := 44) rfl ?_); refine goesL_ (some 10) rfl rfl Tryd.func44 (by kernel_rfl) rfl #[.slice A0_0 l0_0.length c0_0, .slice A0_1 l0_1.length c0_1] rfl (by (try simp only [List.map_toArray, List.map_cons, List.map_nil]); first | done | rfl | (simp only [List.length_drop, List.length_take]; rfl)) ?_; (with_reducible refine (nat_Gcd.calls k (fun k_ => k_ < w.heap.size) _ _ l0_0 (fun k_ => k_ < w.heap.size) _ _ l0_1 t381 t384 _ ?side1 ?side2 A2.out).mono ?_); (case side1 => exact Kd.V_mk HC0_0.out (Kd.F_below (Kd.C_F (Kd.heap_int .u32) HR0_0.out) (by repeat (first | (with_reducible first | exact HB.out | apply below_alloc | apply pw_below_drewN | apply below_drew1 | refine below_set ?_ GE380.out) | exact HB.out)))); (case side2 => exact Kd.V_mk HC0_1.out (Kd.F_below (Kd.C_F (Kd.heap_int .u32) HR0_1.out) (by repeat (first | (with_reducible first | exact HB.out | apply below_alloc | apply pw_below_drewN | apply below_drew1 | refine below_set ?_ GE380.out) | exact HB.out)))); rintro e w17 ⟨v382, rfl, ho0, hb⟩; refine ⟨_, rfl, ?_⟩; have n0_ := Aside0.mk (Kd.R_lower (Kd.R_mono (ok' := fun k_ => True) ho0 (fun _ hk_ => trivial)) (below_size (by repeat (first | (with_reducible first | exact HB.out | apply below_alloc | apply pw_below_drewN | apply below_drew1 | refine below_set ?_ GE380.out) | exact HB.out)))); have n1_ := Aside0.mk (blk_below (g := gb380) (o := .cells #[.slice A0_0 l0_0.length c0_0, .slice A0_1 l0_1.length c0_1] 34 (0, 0)) (by (with_reducible repeat (first | refine blk_drewN ?_ _ | refine blk_drew ?_ | refine blk_alloc ?_ _)); exact BK380.out) hb); have n2_ := Aside0.mk (below_step (by repeat (first | (with_reducible first | exact HB.out | apply below_alloc | apply pw_below_drewN | apply below_drew1 | refine below_set ?_ GE380.out) | exact HB.out)) hb); clear BK380; clear HB; have HO383 := n0_; have BK380 := n1_; have HB := n2_; clear n0_ n1_ n2_; (try clear hb); (try clear hb2); (try clear hk); (try clear hi); (try clear ho0); have hcz18_0 : w17.cell? ⟨gb380, 0, none⟩ = some (.slice A0_0 l0_0.length c0_0) := (blk_cell BK380.out 0).trans rfl; have hcz18_1 : w17.cell? ⟨gb380, 1, none⟩ = some (.slice A0_1 l0_1.length c0_1) := (blk_cell BK380.out 1).trans rfl; have hfz18_0 := blk_frozen BK380.out 0; have hfz18_1 := blk_frozen BK380.out 1))
      go_ret
      exact ⟨by first | rfl | (simp [errW_none, errW_some] <;> rfl) | (simp [*, errW_none, errW_some] <;> rfl), by repeat (first | (with_reducible first | exact HB.out | apply below_alloc | apply pw_below_drewN | apply below_drew1 | refine below_set ?_ GE380.out) | exact HB.out)⟩
  · rw [if_neg c3] at H
    have c3b0 : (t384 == 0) = false := beq_eq_false_iff_ne.mpr c3
    have c3b1 : (t384 != 0) = true := bne_iff_ne.mpr c3
    obtain rfl := Option.some.inj H
    go_enter Tryd.func29, Tryd.ntmps29
    go_wp2_with (first | ((with_reducible refine gate_dst (N := 1) rfl ?_); (try (refine gate_guard (by rfl) ?_; dsimp only)); refine box_event ?hg (N := 1) ?hd (cs := #[.slice A0_0 l0_0.length c0_0, .slice A0_1 l0_1.length c0_1]) (t := 34) ?hr ?_; (case hd => rfl); (case hg => rfl); (case hr => first | (go_simp; done) | (go_simp; rfl)); intro gb380 hg w19 hbox hb; have n0_ := Aside0.mk (below_step (by repeat (first | (with_reducible first | exact HB.out | apply below_alloc | apply pw_below_drewN | apply below_drew1) | exact HB.out)) hb); have n1_ := Aside0.mk (hbox); have n2_ := Aside0.mk ((by rw [hg]; exact (below_size (by repeat (first | (with_reducible first | exact HB.out | apply below_alloc | apply pw_below_drewN | apply below_drew1) | exact HB.out))) : w.heap.size ≤ gb380)); have n3_ := Aside0.mk ((by rw [hg]; exact (below_size (by repeat (first | (with_reducible first | exact HB.out | apply below_alloc | apply pw_below_drewN | apply below_drew1) | exact HB.out))) : w.heap.size ≤ gb380)); clear HB; have HB := n0_; have BK380 := n1_; have GW380 := n2_; have GE380 := n3_; clear n0_ n1_ n2_ n3_; clear hb hbox hg; have hcz20_0 : w19.cell? ⟨gb380, 0, none⟩ = some (.slice A0_0 l0_0.length c0_0) := (blk_cell BK380.out 0).trans rfl; have hcz20_1 : w19.cell? ⟨gb380, 1, none⟩ = some (.slice A0_1 l0_1.length c0_1) := (blk_cell BK380.out 1).trans rfl; have hfz20_0 := blk_frozen BK380.out 0; have hfz20_1 := blk_frozen BK380.out 1) | ((with_reducible refine gate_callee (f := 44) rfl ?_); refine goesL_ (some 10) rfl rfl Tryd.func44 (by kernel_rfl) rfl #[.slice A0_0 l0_0.length c0_0, .slice A0_1 l0_1.length c0_1] rfl (by (try simp only [List.map_toArray, List.map_cons, List.map_nil]); first | done | rfl | (simp only [List.length_drop, List.length_take]; rfl)) ?_; (with_reducible refine (nat_Gcd.calls k (fun k_ => k_ < w.heap.size) _ _ l0_0 (fun k_ => k_ < w.heap.size) _ _ l0_1 t381 t384 _ ?side1 ?side2 A2.out).mono ?_); (case side1 => exact Kd.V_mk HC0_0.out (Kd.F_below (Kd.C_F (Kd.heap_int .u32) HR0_0.out) (by repeat (first | (with_reducible first | exact HB.out | apply below_alloc | apply pw_below_drewN | apply below_drew1 | refine below_set ?_ GE380.out) | exact HB.out)))); (case side2 => exact Kd.V_mk HC0_1.out (Kd.F_below (Kd.C_F (Kd.heap_int .u32) HR0_1.out) (by repeat (first | (with_reducible first | exact HB.out | apply below_alloc | apply pw_below_drewN | apply below_drew1 | refine below_set ?_ GE380.out) | exact HB.out)))); rintro e w21 ⟨v382, rfl, ho0, hb⟩; refine ⟨_, rfl, ?_⟩; have n0_ := Aside0.mk (Kd.R_lower (Kd.R_mono (ok' := fun k_ => True) ho0 (fun _ hk_ => trivial)) (below_size (by repeat (first | (with_reducible first | exact HB.out | apply below_alloc | apply pw_below_drewN | apply below_drew1 | refine below_set ?_ GE380.out) | exact HB.out)))); have n1_ := Aside0.mk (blk_below (g := gb380) (o := .cells #[.slice A0_0 l0_0.length c0_0, .slice A0_1 l0_1.length c0_1] 34 (0, 0)) (by (with_reducible repeat (first | refine blk_drewN ?_ _ | refine blk_drew ?_ | refine blk_alloc ?_ _)); exact BK380.out) hb); have n2_ := Aside0.mk (below_step (by repeat (first | (with_reducible first | exact HB.out | apply below_alloc | apply pw_below_drewN | apply below_drew1 | refine below_set ?_ GE380.out) | exact HB.out)) hb); clear BK380; clear HB; have HO383 := n0_; have BK380 := n1_; have HB := n2_; clear n0_ n1_ n2_; (try clear hb); (try clear hb2); (try clear hk); (try clear hi); (try clear ho0)))
    go_ret
    exact ⟨by first | rfl | (simp [errW_none, errW_some] <;> rfl) | (simp [*, errW_none, errW_some] <;> rfl), by repeat (first | (with_reducible first | exact HB.out | apply below_alloc | apply pw_below_drewN | apply below_drew1 | refine below_set ?_ GE380.out) | exact HB.out)⟩

/-! ### nat_digits: function 47 -/
def nat_digits.f (a0 : Int) : Option (ByteArray) := if 0 ≤ a0 then (if a0 ≤ 4294967295 then some (strOfNums ([48 + a0 / 10 / 10 / 10 / 10 / 10 / 10 / 10 / 10 % 10, 48 + a0 / 10 / 10 / 10 / 10 / 10 / 10 / 10 % 10, 48 + a0 / 10 / 10 / 10 / 10 / 10 / 10 % 10, 48 + a0 / 10 / 10 / 10 / 10 / 10 % 10, 48 + a0 / 10 / 10 / 10 / 10 % 10, 48 + a0 / 10 / 10 / 10 % 10, 48 + a0 / 10 / 10 % 10, 48 + a0 / 10 % 10, 48 + a0 % 10] : List Int)) else none) else none
set_option maxHeartbeats 4000000 in
set_option maxRecDepth 100000 in
theorem nat_digits.calls (a0 : Int) (r : ByteArray) (w : World) (h : nat_digits.f a0 = some r) :
    Calls Tryd.prog 47 #[.int .u32 a0] w fun e w' => e = .returned (.string r) ∧ Below w.heap.size w w' := by
  unfold nat_digits.f at h
  by_cases h0 : 0 ≤ a0
  · rw [if_pos h0] at h
    by_cases h1 : a0 ≤ 4294967295
    · rw [if_pos h1] at h
      have hr := Aside0.mk (Option.some.inj h)
      clear h
      go_enter Tryd.func47, Tryd.ntmps47
      go_wp2
      refine wp_loop_rounds 10 ?_
      rw [rounds_succ]; go_wp2
      rw [rounds_succ]; go_wp2
      rw [rounds_succ]; go_wp2
      rw [rounds_succ]; go_wp2
      rw [rounds_succ]; go_wp2
      rw [rounds_succ]; go_wp2
      rw [rounds_succ]; go_wp2
      rw [rounds_succ]; go_wp2
      rw [rounds_succ]; go_wp2
      rw [rounds_succ]; go_wp2
      rw [run_convert_bytes_arg (P := Tryd.prog) _ 98 5 Tryd.underlying98 Tryd.underlying5 w.heap.size 0 9 9 ([48 + a0 / 10 / 10 / 10 / 10 / 10 / 10 / 10 / 10 % 10, 48 + a0 / 10 / 10 / 10 / 10 / 10 / 10 / 10 % 10, 48 + a0 / 10 / 10 / 10 / 10 / 10 / 10 % 10, 48 + a0 / 10 / 10 / 10 / 10 / 10 % 10, 48 + a0 / 10 / 10 / 10 / 10 % 10, 48 + a0 / 10 / 10 / 10 % 10, 48 + a0 / 10 / 10 % 10, 48 + a0 / 10 % 10, 48 + a0 % 10]) rfl (fun i hi => by
        obtain rfl | rfl | rfl | rfl | rfl | rfl | rfl | rfl | rfl : i = 0 ∨ i = 1 ∨ i = 2 ∨ i = 3 ∨ i = 4 ∨ i = 5 ∨ i = 6 ∨ i = 7 ∨ i = 8 := by omega
        all_goals exact (blk_cell (heap_alloc_new w _) _).trans rfl) 9 Tryd.underlying9]
      go_wp2
      go_ret
      exact ⟨by rw [← hr.out]; rfl, (Below.refl _ _).alloc (Nat.le_refl _) _⟩
    · rw [if_neg h1] at h
      exact absurd h (by simp)
  · rw [if_neg h0] at h
    exact absurd h (by simp)

end Go.Proofs.YthjiiifnlhbffaaDoor.GKeepThreshold
