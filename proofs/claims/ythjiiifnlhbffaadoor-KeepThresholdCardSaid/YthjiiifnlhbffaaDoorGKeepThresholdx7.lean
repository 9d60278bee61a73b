-- Written by gprint (wip/gprint), this session's program over the kit's print. Not trusted: Lean checks it.
import Derived.Test.YthjiiifnlhbffaaDoorGKeepThresholdx0
import Derived.Test.YthjiiifnlhbffaaDoorGKeepThresholdx1
import Derived.Test.YthjiiifnlhbffaaDoorGKeepThresholdx2
import Derived.Test.YthjiiifnlhbffaaDoorGKeepThresholdx3
import Derived.Test.YthjiiifnlhbffaaDoorGKeepThresholdx6
namespace Go.Proofs.YthjiiifnlhbffaaDoor.GKeepThreshold
open Go.RowKit Go.Proofs.YthjiiifnlhbffaaDoorW.PrintWords Go.Proofs.YthjiiifnlhbffaaDoorW.PrintLast Go.Proofs.YthjiiifnlhbffaaDoorW.PrintMore
attribute [local go_sem] max2_int min2_int max_two min_two max_three min_three max_four min_four   -- for this text's walks alone
set_option linter.unusedVariables false
set_option linter.unusedSimpArgs false

/-! ### rat_Make: function 20 -/
def rat_Make.f (k : Nat) (l0 : List Int) (l1 : List Int) : Option (List Int × List Int × Int) := (nat_Right.f l0).bind fun t273 => (if t273 = true then ((nat_Right.f l1).bind fun t274 => (if t274 = true then (if (l1.length : Int) = 0 then (none) else ((rat_reduce.f k l0 l1).bind fun bt275 => (some (bt275.1, bt275.2, 0)))) else (none))) else (none))
theorem rat_Make.mono : ∀ a0 a1 k, LeO (rat_Make.f k a0 a1) (rat_Make.f (k + 1) a0 a1) := by
  intro a0 a1 k
  unfold rat_Make.f
  repeat' first
      | (with_reducible exact rat_reduce.mono _ _ _)
      | (with_reducible exact LeO.refl _)
      | (with_reducible exact LeO.none _)
      | (with_reducible refine LeO.ite ?_ ?_)
      | (with_reducible refine LeO.bind ?_ (fun _ => ?_))
      | exact rat_reduce.mono _ _ _
      | exact LeO.none _
      | refine LeO.ite ?_ ?_
      | refine LeO.bind ?_ (fun _ => ?_)
set_option maxHeartbeats 8000000 in
set_option maxRecDepth 100000 in
theorem rat_Make.calls (k : Nat) (A0 : Option Addr) (c0 : Nat) (l0 : List Int) (A1 : Option Addr) (c1 : Nat) (l1 : List Int) (r1 : List Int) (r2 : List Int) (r3 : Int) (w : World) (hr0 : Kd.C (Kd.int .u32) w A0 l0.length l0) (hc0 : l0.length ≤ c0) (hr1 : Kd.C (Kd.int .u32) w A1 l1.length l1) (hc1 : l1.length ≤ c1) (h : rat_Make.f k l0 l1 = some (r1, r2, r3)) :
    Calls Tryd.prog 20 #[.slice A0 l0.length c0, .slice A1 l1.length c1] w fun e w' => ∃ v0_ v1_ : Value, e = .returned (.tuple #[.agg #[v0_, v1_], .int .i64 r3]) ∧ Kd.R (Kd.int .u32) 76 w' w.heap.size (fun k_ => some k_ ≠ (v1_ : Value).ownBlock) v0_ r1 ∧ Kd.R (Kd.int .u32) 76 w' w.heap.size (fun k_ => some k_ ≠ (v0_ : Value).ownBlock) v1_ r2 ∧ Below w.heap.size w w' := by
  have hu34 := Tryd.underlying34
  have HR0 := Aside0.mk hr0
  have HC0 := Aside0.mk hc0
  clear hr0 hc0
  have HR1 := Aside0.mk hr1
  have HC1 := Aside0.mk hc1
  clear hr1 hc1
  have HB := Aside0.mk (Below.refl w.heap.size w)
  have H : ((nat_Right.f l0).bind fun t273 => (if t273 = true then ((nat_Right.f l1).bind fun t274 => (if t274 = true then (if (l1.length : Int) = 0 then (none) else ((rat_reduce.f k l0 l1).bind fun bt275 => (some (bt275.1, bt275.2, 0)))) else (none))) else (none))) = some (r1, r2, r3) := h
  clear h
  replace H := Option.bind_eq_some_iff.mp H
  obtain ⟨t273, A30, H⟩ := H
  replace H : (if t273 = true then ((nat_Right.f l1).bind fun t274 => (if t274 = true then (if (l1.length : Int) = 0 then (none) else ((rat_reduce.f k l0 l1).bind fun bt275 => (some (bt275.1, bt275.2, 0)))) else (none))) else (none)) = some (r1, r2, r3) := H
  have A3 := Aside0.mk A30
  clear A30
  by_cases c4 : t273 = true
  · subst c4
    have H1 : ((nat_Right.f l1).bind fun t274 => (if t274 = true then (if (l1.length : Int) = 0 then (none) else ((rat_reduce.f k l0 l1).bind fun bt275 => (some (bt275.1, bt275.2, 0)))) else (none))) = some (r1, r2, r3) := by rw [if_pos rfl] at H; exact H
    clear H
    have H := H1
    clear H1
    replace H := Option.bind_eq_some_iff.mp H
    obtain ⟨t274, A50, H⟩ := H
    replace H : (if t274 = true then (if (l1.length : Int) = 0 then (none) else ((rat_reduce.f k l0 l1).bind fun bt275 => (some (bt275.1, bt275.2, 0)))) else (none)) = some (r1, r2, r3) := H
    have A5 := Aside0.mk A50
    clear A50
    by_cases c6 : t274 = true
    · subst c6
      have H1 : (if (l1.length : Int) = 0 then (none) else ((rat_reduce.f k l0 l1).bind fun bt275 => (some (bt275.1, bt275.2, 0)))) = some (r1, r2, r3) := by rw [if_pos rfl] at H; exact H
      clear H
      have H := H1
      clear H1
      by_cases c7 : (l1.length : Int) = 0
      · rw [if_pos c7] at H
        exact absurd H (by simp)
      · rw [if_neg c7] at H
        have c7b0 : ((l1.length : Int) == 0) = false := beq_eq_false_iff_ne.mpr c7
        have c7b1 : ((l1.length : Int) != 0) = true := bne_iff_ne.mpr c7
        have c7b2 : ¬ (l1 = []) := fun h_ => c7 (by rw [h_]; rfl)
        replace H := Option.bind_eq_some_iff.mp H
        obtain ⟨⟨t275, t278⟩, A80, H⟩ := H
        replace H : (some (t275, t278, 0)) = some (r1, r2, r3) := H
        have A8 := Aside0.mk A80
        clear A80
        simp only [Option.some.injEq, Prod.mk.injEq] at H
        obtain ⟨rfl, rfl, rfl⟩ := H
        go_enter Tryd.func20, Tryd.ntmps20
        go_wp2_with (first | ((with_reducible refine gate_dst (N := 4) rfl ?_); refine box_event ?hg (N := 4) ?hd (cs := #[.slice none 0 0, .slice none 0 0]) (t := 34) ?hr ?_; (case hd => rfl); (case hg => rfl); (case hr => first | (go_simp; done) | (go_simp; rfl)); intro gb272 hg w9 hbox hb; have n0_ := Aside0.mk (below_step (by repeat (first | (with_reducible first | exact HB.out | apply below_alloc | apply pw_below_drewN | apply below_drew1) | exact HB.out)) hb); have n1_ := Aside0.mk (hbox); have n2_ := Aside0.mk ((by rw [hg]; exact (below_size (by repeat (first | (with_reducible first | exact HB.out | apply below_alloc | apply pw_below_drewN | apply below_drew1) | exact HB.out))) : w.heap.size ≤ gb272)); have n3_ := Aside0.mk ((by rw [hg]; exact (below_size (by repeat (first | (with_reducible first | exact HB.out | apply below_alloc | apply pw_below_drewN | apply below_drew1) | exact HB.out))) : w.heap.size ≤ gb272)); clear HB; have HB := n0_; have BK272 := n1_; have GW272 := n2_; have GE272 := n3_; clear n0_ n1_ n2_ n3_; clear hb hbox hg) | ((with_reducible refine gate_callee (f := 36) rfl ?_); refine goesL_ (some 8) rfl rfl Tryd.func36 (by kernel_rfl) rfl #[.slice A0 l0.length c0] rfl (by (try simp only [List.map_toArray, List.map_cons, List.map_nil]); first | done | rfl | (simp only [List.length_drop, List.length_take]; rfl)) ?_; (with_reducible refine (nat_Right.calls _ _ l0 true _ ?side1 ?side2 A3.out).mono ?_); (case side1 => repeat (first | exact (Kd.C_below HR0.out HB.out) | (with_reducible refine Kd.C_alloc ?_ _) | (with_reducible refine Kd.C_drewN ?_ _) | (with_reducible refine Kd.C_drew ?_))); (case side2 => exact HC0.out); rintro e w' ⟨rfl, ⟨nd, rfl⟩⟩; refine ⟨_, rfl, ?_⟩; (try (rw [drewN_self w9]; generalize hq_ : World.drewN w9 _ = w9; have n0_ : Aside0 (w9.heap[gb272]? = some (.cells #[.slice none 0 0, .slice none 0 0] 34 (0, 0))) := ⟨by rw [← hq_]; exact (by (with_reducible repeat (first | refine blk_drewN ?_ _ | refine blk_drew ?_ | refine blk_alloc ?_ _)); exact BK272.out)⟩; have n1_ : Aside0 (Below w.heap.size w w9) := ⟨by rw [← hq_]; exact (by repeat (first | (with_reducible first | exact HB.out | apply below_alloc | apply pw_below_drewN | apply below_drew1 | refine below_set ?_ GE272.out) | exact HB.out))⟩; clear BK272 HB hq_; have BK272 := n0_; have HB := n1_; clear n0_ n1_))) | (go_at_call 36; (with_reducible refine (nat_Right.calls _ _ l1 true _ ?side1 ?side2 A5.out).mono ?_); (case side1 => repeat (first | exact (Kd.C_below HR1.out HB.out) | (with_reducible refine Kd.C_alloc ?_ _) | (with_reducible refine Kd.C_drewN ?_ _) | (with_reducible refine Kd.C_drew ?_))); (case side2 => exact HC1.out); rintro e w' ⟨rfl, ⟨nd, rfl⟩⟩; (try (rw [drewN_self w9]; generalize hq_ : World.drewN w9 _ = w9; have n0_ : Aside0 (w9.heap[gb272]? = some (.cells #[.slice none 0 0, .slice none 0 0] 34 (0, 0))) := ⟨by rw [← hq_]; exact (by (with_reducible repeat (first | refine blk_drewN ?_ _ | refine blk_drew ?_ | refine blk_alloc ?_ _)); exact BK272.out)⟩; have n1_ : Aside0 (Below w.heap.size w w9) := ⟨by rw [← hq_]; exact (by repeat (first | (with_reducible first | exact HB.out | apply below_alloc | apply pw_below_drewN | apply below_drew1 | refine below_set ?_ GE272.out) | exact HB.out))⟩; clear BK272 HB hq_; have BK272 := n0_; have HB := n1_; clear n0_ n1_))) | ((with_reducible refine gate_callee (f := 37) rfl ?_); refine goesL_ (some 23) rfl rfl Tryd.func37 (by kernel_rfl) rfl #[.slice A0 l0.length c0, .slice A1 l1.length c1] rfl (by (try simp only [List.map_toArray, List.map_cons, List.map_nil]); first | done | rfl | (simp only [List.length_drop, List.length_take]; rfl)) ?_; (with_reducible refine (rat_reduce.calls k _ _ l0 _ _ l1 t275 t278 _ ?side1 ?side2 ?side3 ?side4 A8.out).mono ?_); (case side1 => repeat (first | exact (Kd.C_below HR0.out HB.out) | (with_reducible refine Kd.C_alloc ?_ _) | (with_reducible refine Kd.C_drewN ?_ _) | (with_reducible refine Kd.C_drew ?_))); (case side2 => exact HC0.out); (case side3 => repeat (first | exact (Kd.C_below HR1.out HB.out) | (with_reducible refine Kd.C_alloc ?_ _) | (with_reducible refine Kd.C_drewN ?_ _) | (with_reducible refine Kd.C_drew ?_))); (case side4 => exact HC1.out); rintro e w10 ⟨v276, v279, rfl, ho0, ho1, hb⟩; refine ⟨_, rfl, ?_⟩; have n0_ := Aside0.mk (Kd.R_lower ho0 (below_size (by repeat (first | (with_reducible first | exact HB.out | apply below_alloc | apply pw_below_drewN | apply below_drew1 | refine below_set ?_ GE272.out) | exact HB.out)))); have n1_ := Aside0.mk (Kd.R_lower ho1 (below_size (by repeat (first | (with_reducible first | exact HB.out | apply below_alloc | apply pw_below_drewN | apply below_drew1 | refine below_set ?_ GE272.out) | exact HB.out)))); have n2_ := Aside0.mk (blk_below (g := gb272) (o := .cells #[.slice none 0 0, .slice none 0 0] 34 (0, 0)) (by (with_reducible repeat (first | refine blk_drewN ?_ _ | refine blk_drew ?_ | refine blk_alloc ?_ _)); exact BK272.out) hb); have n3_ := Aside0.mk (below_step (by repeat (first | (with_reducible first | exact HB.out | apply below_alloc | apply pw_below_drewN | apply below_drew1 | refine below_set ?_ GE272.out) | exact HB.out)) hb); clear BK272; clear HB; have HO277 := n0_; have HO280 := n1_; have BK272 := n2_; have HB := n3_; clear n0_ n1_ n2_ n3_; (try clear hb); (try clear hb2); (try clear hk); (try clear hi); (try clear ho0); (try clear ho1); obtain ⟨Ao11, co11, eo11⟩ := Kd.R_slice HO277.out; subst eo11; have hcz12_0 : w10.cell? ⟨gb272, 0, none⟩ = some (.slice none 0 0) := (blk_cell BK272.out 0).trans rfl; have hcz12_1 : w10.cell? ⟨gb272, 1, none⟩ = some (.slice none 0 0) := (blk_cell BK272.out 1).trans rfl; have hfz12_0 := blk_frozen BK272.out 0; have hfz12_1 := blk_frozen BK272.out 1; obtain ⟨Ao13, co13, eo13⟩ := Kd.R_slice HO280.out; subst eo13))
        refine bodyPost_ret (results_ct rfl _ _ gb272 34 #[.slice Ao11 t275.length co11, .slice Ao13 t278.length co13] (0, 0) _ rfl (by (with_reducible repeat (first | refine blk_drewN ?_ _ | refine blk_drew ?_ | refine blk_alloc ?_ _)); refine blk_put (cs := #[.slice Ao11 t275.length co11, .slice none 0 0]) ?_ 1 _ rfl; (with_reducible repeat (first | refine blk_drewN ?_ _ | refine blk_drew ?_ | refine blk_alloc ?_ _)); refine blk_put (cs := #[.slice none 0 0, .slice none 0 0]) ?_ 0 _ rfl; (with_reducible repeat (first | refine blk_drewN ?_ _ | refine blk_drew ?_ | refine blk_alloc ?_ _)); exact BK272.out) Tryd.underlying34 rfl (by kernel_rfl)) rfl ?_
        exact ⟨_, _, by first | rfl | (simp [errW_none, errW_some] <;> rfl) | (simp [*, errW_none, errW_some] <;> rfl), by (with_reducible repeat (first | apply Kd.R_alloc | apply Kd.R_drewN | apply Kd.R_drew)); exact Kd.R_mono (Kd.R_far (p := ⟨gb272, 1, none⟩) (Kd.R_far (p := ⟨gb272, 0, none⟩) (Kd.R_types HO277.out BK272.out (by decide)) (fun _ hk => hk.2) (.slice Ao11 t275.length co11)) (fun _ hk => hk.2) (.slice Ao13 t278.length co13)) (fun _ hk => hk.1), by (with_reducible repeat (first | apply Kd.R_alloc | apply Kd.R_drewN | apply Kd.R_drew)); exact Kd.R_mono (Kd.R_far (p := ⟨gb272, 1, none⟩) (Kd.R_far (p := ⟨gb272, 0, none⟩) (Kd.R_types HO280.out BK272.out (by decide)) (fun _ hk => hk.2) (.slice Ao11 t275.length co11)) (fun _ hk => hk.2) (.slice Ao13 t278.length co13)) (fun _ hk => hk.1), by repeat (first | (with_reducible first | exact HB.out | apply below_alloc | apply pw_below_drewN | apply below_drew1 | refine below_set ?_ GE272.out) | exact HB.out)⟩
    · replace c6 := Bool.eq_false_iff.mpr c6
      subst c6
      have H1 : (none) = some (r1, r2, r3) := by rw [if_neg (show ¬ (false = true) by decide)] at H; exact H
      clear H
      have H := H1
      clear H1
      exact absurd H (by simp)
  · replace c4 := Bool.eq_false_iff.mpr c4
    subst c4
    have H1 : (none) = some (r1, r2, r3) := by rw [if_neg (show ¬ (false = true) by decide)] at H; exact H
    clear H
    have H := H1
    clear H1
    exact absurd H (by simp)

/-! ### rank_Rank: function 11 -/
def rank_Rank.f (k : Nat) (a0_0 : ByteArray) (a0_1 : Int) (a0_2 : Int) : Option (List Int × List Int × Int) := (rank_Check.f a0_0 a0_1 a0_2).bind fun t283 => (if t283 = 0 then ((nat_Of.f k a0_1).bind fun t284 => ((nat_Of.f k a0_2).bind fun t287 => ((rat_Make.f k t284 t287).bind fun bt290 => (some (bt290.1, bt290.2.1, bt290.2.2))))) else (none))
theorem rank_Rank.mono : ∀ a0 a1 a2 k, LeO (rank_Rank.f k a0 a1 a2) (rank_Rank.f (k + 1) a0 a1 a2) := by
  intro a0 a1 a2 k
  unfold rank_Rank.f
  repeat' first
      | (with_reducible exact nat_Of.mono _ _)
      | (with_reducible exact rat_Make.mono _ _ _)
      | (with_reducible exact LeO.refl _)
      | (with_reducible exact LeO.none _)
      | (with_reducible refine LeO.ite ?_ ?_)
      | (with_reducible refine LeO.bind ?_ (fun _ => ?_))
      | exact nat_Of.mono _ _
      | exact rat_Make.mono _ _ _
      | exact LeO.none _
      | refine LeO.ite ?_ ?_
      | refine LeO.bind ?_ (fun _ => ?_)
def rank_Rank.T4 : Bool × List (List Nat × List Nat) := (true, [([], []), ([0], [0]), ([1], [1]), ([], []), ([3], [3]), ([4, 2], [4]), ([2, 5, 5], [2, 5]), ([6], [6]), ([6], [6]), ([7, 6, 0, 1, 2, 3, 4, 5, 6, 7, 8], [7]), ([8, 9, 0, 1, 2, 3, 4, 5, 6, 7, 8, 9], [8])])
def rank_Rank.B4 : List Nat := [0, 1, 3, 0, 8, 31, 63, 127, 127, 511, 1023]
theorem rank_Rank.tab4 : rtab .any (opsOf Tryd.f11 4) = rank_Rank.T4 := by kernel_rfl
theorem rank_Rank.bits4 : waitsOk rank_Rank.T4.2 rank_Rank.B4 = true := by kernel_rfl
set_option maxHeartbeats 8000000 in
set_option maxRecDepth 100000 in
theorem rank_Rank.calls (k : Nat) (a0_0 : ByteArray) (a0_1 : Int) (a0_2 : Int) (r1 : List Int) (r2 : List Int) (r3 : Int) (w : World) (h : rank_Rank.f k a0_0 a0_1 a0_2 = some (r1, r2, r3)) :
    Calls Tryd.prog 11 #[.agg #[.string a0_0, .int .u64 a0_1, .int .u64 a0_2]] w fun e w' => ∃ v0_ v1_ : Value, e = .returned (.tuple #[.agg #[v0_, v1_], .int .i64 r3]) ∧ Kd.R (Kd.int .u32) 76 w' w.heap.size (fun k_ => some k_ ≠ (v1_ : Value).ownBlock) v0_ r1 ∧ Kd.R (Kd.int .u32) 76 w' w.heap.size (fun k_ => some k_ ≠ (v0_ : Value).ownBlock) v1_ r2 ∧ Below w.heap.size w w' := by
  have hu25 := Tryd.underlying25
  have hu34 := Tryd.underlying34
  have HB := Aside0.mk (Below.refl w.heap.size w)
  have H : ((rank_Check.f a0_0 a0_1 a0_2).bind fun t283 => (if t283 = 0 then ((nat_Of.f k a0_1).bind fun t284 => ((nat_Of.f k a0_2).bind fun t287 => ((rat_Make.f k t284 t287).bind fun bt290 => (some (bt290.1, bt290.2.1, bt290.2.2))))) else (none))) = some (r1, r2, r3) := h
  clear h
  replace H := Option.bind_eq_some_iff.mp H
  obtain ⟨t283, A20, H⟩ := H
  replace H : (if t283 = 0 then ((nat_Of.f k a0_1).bind fun t284 => ((nat_Of.f k a0_2).bind fun t287 => ((rat_Make.f k t284 t287).bind fun bt290 => (some (bt290.1, bt290.2.1, bt290.2.2))))) else (none)) = some (r1, r2, r3) := H
  have A2 := Aside0.mk A20
  clear A20
  by_cases c3 : t283 = 0
  · rw [if_pos c3] at H
    have c3b0 : (t283 == 0) = true := beq_iff_eq.mpr c3
    have c3b1 : (t283 != 0) = false := bne_eq_false_iff_eq.mpr c3
    clear c3
    replace H := Option.bind_eq_some_iff.mp H
    obtain ⟨t284, A40, H⟩ := H
    replace H : ((nat_Of.f k a0_2).bind fun t287 => ((rat_Make.f k t284 t287).bind fun bt290 => (some (bt290.1, bt290.2.1, bt290.2.2)))) = some (r1, r2, r3) := H
    have A4 := Aside0.mk A40
    clear A40
    replace H := Option.bind_eq_some_iff.mp H
    obtain ⟨t287, A50, H⟩ := H
    replace H : ((rat_Make.f k t284 t287).bind fun bt290 => (some (bt290.1, bt290.2.1, bt290.2.2))) = some (r1, r2, r3) := H
    have A5 := Aside0.mk A50
    clear A50
    replace H := Option.bind_eq_some_iff.mp H
    obtain ⟨⟨t290, t293, t296⟩, A60, H⟩ := H
    replace H : (some (t290, t293, t296)) = some (r1, r2, r3) := H
    have A6 := Aside0.mk A60
    clear A60
    simp only [Option.some.injEq, Prod.mk.injEq] at H
    obtain ⟨rfl, rfl, rfl⟩ := H
    go_enter Tryd.func11, Tryd.ntmps11
    try go_wp2_with (first | ((with_reducible refine gate_dst (N := 1) rfl ?_); refine box_event ?hg (N := 1) ?hd (cs := #[.string a0_0, .int .u64 a0_1, .int .u64 a0_2]) (t := 25) ?hr ?_; (case hd => rfl); (case hg => rfl); (case hr => first | (go_simp; done) | (go_simp; rfl)); intro gb281 hg w7 hbox hb; have n0_ := Aside0.mk (below_step (by repeat (first | (with_reducible first | exact HB.out | apply below_alloc | apply pw_below_drewN | apply below_drew1) | exact HB.out)) hb); have n1_ := Aside0.mk (hbox); have n2_ := Aside0.mk ((by rw [hg]; exact (below_size (by repeat (first | (with_reducible first | exact HB.out | apply below_alloc | apply pw_below_drewN | apply below_drew1) | exact HB.out))) : w.heap.size ≤ gb281)); have n3_ := Aside0.mk ((by rw [hg]; exact (below_size (by repeat (first | (with_reducible first | exact HB.out | apply below_alloc | apply pw_below_drewN | apply below_drew1) | exact HB.out))) : w.heap.size ≤ gb281)); clear HB; have HB := n0_; have BK281 := n1_; have GW281 := n2_; have GE281 := n3_; clear n0_ n1_ n2_ n3_; clear hb hbox hg) | ((with_reducible refine gate_dst (N := 2) rfl ?_); refine box_event ?hg (N := 2) ?hd (cs := #[.slice none 0 0, .slice none 0 0]) (t := 34) ?hr ?_; (case hd => rfl); (case hg => rfl); (case hr => first | (go_simp; done) | (go_simp; rfl)); intro gb282 hg w8 hbox hb; have n0_ := Aside0.mk (blk_below (g := gb281) (o := .cells #[.string a0_0, .int .u64 a0_1, .int .u64 a0_2] 25 (0, 0)) (by (with_reducible repeat (first | refine blk_drewN ?_ _ | refine blk_drew ?_ | refine blk_alloc ?_ _)); exact BK281.out) hb); have n1_ := Aside0.mk (below_step (by repeat (first | (with_reducible first | exact HB.out | apply below_alloc | apply pw_below_drewN | apply below_drew1 | refine below_set ?_ GE281.out) | exact HB.out)) hb); have n2_ := Aside0.mk (hbox); have n3_ := Aside0.mk ((by rw [hg]; exact (below_size (by repeat (first | (with_reducible first | exact HB.out | apply below_alloc | apply pw_below_drewN | apply below_drew1 | refine below_set ?_ GE281.out) | exact HB.out))) : w.heap.size ≤ gb282)); have n4_ := Aside0.mk ((by rw [hg]; exact (below_size (by repeat (first | (with_reducible first | exact HB.out | apply below_alloc | apply pw_below_drewN | apply below_drew1 | refine below_set ?_ GE281.out) | exact HB.out))) : w.heap.size ≤ gb282)); have n5_ := Aside0.mk ((by rw [hg]; exact Nat.ne_of_lt (blk_lt (g := gb281) (o := .cells #[.string a0_0, .int .u64 a0_1, .int .u64 a0_2] 25 (0, 0)) (by (with_reducible repeat (first | refine blk_drewN ?_ _ | refine blk_drew ?_ | refine blk_alloc ?_ _)); exact BK281.out)) : gb281 ≠ gb282)); have n6_ := Aside0.mk ((by rw [hg]; exact Nat.ne_of_gt (blk_lt (g := gb281) (o := .cells #[.string a0_0, .int .u64 a0_1, .int .u64 a0_2] 25 (0, 0)) (by (with_reducible repeat (first | refine blk_drewN ?_ _ | refine blk_drew ?_ | refine blk_alloc ?_ _)); exact BK281.out)) : gb282 ≠ gb281)); clear BK281; clear HB; have BK281 := n0_; have HB := n1_; have BK282 := n2_; have GW282 := n3_; have GE282 := n4_; have NB281_282 := n5_; have NB282_281 := n6_; clear n0_ n1_ n2_ n3_ n4_ n5_ n6_; clear hb hbox hg; have hnb9 := NB281_282.out; have hnc9 := NB282_281.out; have hcz10_0 : w8.cell? ⟨gb281, 0, none⟩ = some (.string a0_0) := (blk_cell BK281.out 0).trans rfl; have hcz10_1 : w8.cell? ⟨gb281, 1, none⟩ = some (.int .u64 a0_1) := (blk_cell BK281.out 1).trans rfl; have hcz10_2 : w8.cell? ⟨gb281, 2, none⟩ = some (.int .u64 a0_2) := (blk_cell BK281.out 2).trans rfl; have hfz10_0 := blk_frozen BK281.out 0; have hfz10_1 := blk_frozen BK281.out 1; have hfz10_2 := blk_frozen BK281.out 2) | ((with_reducible refine gate_callee (f := 6) rfl ?_); refine goesL_ (some 6) rfl rfl Tryd.func6 (by kernel_rfl) rfl #[.agg #[.string a0_0, .int .u64 a0_1, .int .u64 a0_2]] rfl (by (try simp only [List.map_toArray, List.map_cons, List.map_nil]); first | done | rfl | (simp only [List.length_drop, List.length_take]; rfl)) ?_; (with_reducible refine (rank_Check.calls a0_0 a0_1 a0_2 t283 _ A2.out).mono ?_); rintro e w11 ⟨rfl, hb⟩; refine ⟨_, rfl, ?_⟩; have n0_ := Aside0.mk (blk_below (g := gb281) (o := .cells #[.string a0_0, .int .u64 a0_1, .int .u64 a0_2] 25 (0, 0)) (by (with_reducible repeat (first | refine blk_drewN ?_ _ | refine blk_drew ?_ | refine blk_alloc ?_ _)); exact BK281.out) hb); have n1_ := Aside0.mk (blk_below (g := gb282) (o := .cells #[.slice none 0 0, .slice none 0 0] 34 (0, 0)) (by (with_reducible repeat (first | refine blk_drewN ?_ _ | refine blk_drew ?_ | refine blk_alloc ?_ _)); exact BK282.out) hb); have n2_ := Aside0.mk (below_step (by repeat (first | (with_reducible first | exact HB.out | apply below_alloc | apply pw_below_drewN | apply below_drew1 | refine below_set ?_ GE281.out | refine below_set ?_ GE282.out) | exact HB.out)) hb); clear BK281; clear BK282; clear HB; have BK281 := n0_; have BK282 := n1_; have HB := n2_; clear n0_ n1_ n2_; (try clear hb); (try clear hb2); (try clear hk); (try clear hi)))
    have n0_ := Aside0.mk (blk_drew BK281.out)
    have n1_ := Aside0.mk (blk_drew BK282.out)
    have n2_ := Aside0.mk (below_drew1 HB.out)
    clear BK281
    clear BK282
    clear HB
    have BK281 := n0_
    have BK282 := n1_
    have HB := n2_
    clear n0_ n1_ n2_
    refine start_ (n := 11) (S := fun w' => w'.cell? ⟨gb281, 0, none⟩ = some (.string a0_0) ∧ w'.cell? ⟨gb281, 1, none⟩ = some (.int .u64 a0_1) ∧ w'.cell? ⟨gb281, 2, none⟩ = some (.int .u64 a0_2)) (ds := []) #[false, false, false, false, false, false, false, false, false, false, false] (by kernel_rfl) rfl rfl ⟨(blk_cell BK281.out 0).trans rfl, (blk_cell BK281.out 1).trans rfl, (blk_cell BK281.out 2).trans rfl⟩ (fun hHeld => ?_); refine with_tabW rank_Rank.tab4 rank_Rank.bits4 (fun HT_ HW_ => ?_)
    generalize w11.drew = w12 at BK281 BK282 HB hHeld ⊢
    refine pure_ (i := 0) (N := some 11) (v := ?_) (a' := ?_) #[true, false, false, false, false, false, false, false, false, false, false] rfl rfl (any_of HT_.out (by kernel_rfl)) (fun _ _ _ h => h) (Or.inl ⟨by rfl, ?_⟩) ?_ ?_
    rotate_left
    · intro w'
      go_simp
      with_reducible rfl
    rotate_left
    · simp only [Act.put, List.setIfInBounds_toArray, List.set_cons_zero, List.set_cons_succ, i64_w, i32_w]
      rfl
    refine pure_ (i := 3) (N := some 14) (v := ?_) (a' := ?_) #[true, false, false, true, false, false, false, false, false, false, false] rfl rfl (any_of HT_.out (by kernel_rfl)) (fun _ _ _ h => h) (Or.inl ⟨by rfl, ?_⟩) ?_ ?_
    rotate_left
    · intro w'
      go_simp
      with_reducible rfl
    rotate_left
    · simp only [Act.put, List.setIfInBounds_toArray, List.set_cons_zero, List.set_cons_succ, i64_w, i32_w]
      rfl
    refine take_ (i := 1) (N := some 12) (v := ?_) (a' := ?_) #[true, true, false, true, false, false, false, false, false, false, false] rfl rfl (take_ofW HT_.out HW_.out (by kernel_rfl)) (fun _ _ _ h => h) (Or.inl ⟨by rfl, ?_⟩) hHeld ?_ ?_
    rotate_left
    · rintro w' ⟨s0, s1, s2⟩
      go_simp
      with_reducible rfl
    rotate_left
    · simp only [Act.put, List.setIfInBounds_toArray, List.set_cons_zero, List.set_cons_succ, i64_w, i32_w]
      rfl
    refine take_ (i := 4) (N := some 15) (v := ?_) (a' := ?_) #[true, true, false, true, true, false, false, false, false, false, false] rfl rfl (take_ofW HT_.out HW_.out (by kernel_rfl)) (fun _ _ _ h => h) (Or.inl ⟨by rfl, ?_⟩) hHeld ?_ ?_
    rotate_left
    · rintro w' ⟨s0, s1, s2⟩
      go_simp
      with_reducible rfl
    rotate_left
    · simp only [Act.put, List.setIfInBounds_toArray, List.set_cons_zero, List.set_cons_succ, i64_w, i32_w]
      rfl
    refine one_ (i := 2) (N := some 13) #[true, true, true, true, true, false, false, false, false, false, false] rfl rfl (one_of HT_.out (by kernel_rfl)) (by decide) (fun K hK => ?_)
    refine goes_ Tryd.func21 (by kernel_rfl) rfl #[.int .u64 a0_1] (by rfl) rfl rfl (by (try simp only [List.map_toArray, List.map_cons, List.map_nil]); first | done | rfl | (simp only [List.length_drop, List.length_take]; rfl)) ?_
    with_reducible refine (nat_Of.calls k a0_1 t284 _ A4.out).mono ?_
    rintro e w13 ⟨v285, rfl, ho0, hb⟩
    refine ⟨_, rfl, ?_⟩
    have n0_ := Aside0.mk (Kd.R_lower ho0 (below_size (by repeat (first | (with_reducible first | exact HB.out | apply below_alloc | apply pw_below_drewN | apply below_drew1 | refine below_set ?_ GE281.out | refine below_set ?_ GE282.out) | exact HB.out))))
    have n1_ := Aside0.mk (blk_below (g := gb281) (o := .cells #[.string a0_0, .int .u64 a0_1, .int .u64 a0_2] 25 (0, 0)) (by (with_reducible repeat (first | refine blk_drewN ?_ _ | refine blk_drew ?_ | refine blk_alloc ?_ _)); exact BK281.out) hb)
    have n2_ := Aside0.mk (blk_below (g := gb282) (o := .cells #[.slice none 0 0, .slice none 0 0] 34 (0, 0)) (by (with_reducible repeat (first | refine blk_drewN ?_ _ | refine blk_drew ?_ | refine blk_alloc ?_ _)); exact BK282.out) hb)
    have n3_ := Aside0.mk (below_step (by repeat (first | (with_reducible first | exact HB.out | apply below_alloc | apply pw_below_drewN | apply below_drew1 | refine below_set ?_ GE281.out | refine below_set ?_ GE282.out) | exact HB.out)) hb)
    clear BK281
    clear BK282
    clear HB
    have HO286 := n0_
    have BK281 := n1_
    have BK282 := n2_
    have HB := n3_
    clear n0_ n1_ n2_ n3_
    (try clear hb)
    (try clear hb2)
    (try clear hk)
    (try clear hi)
    (try clear ho0)
    refine hK.out _ _ ⟨(blk_cell BK281.out 0).trans rfl, (blk_cell BK281.out 1).trans rfl, (blk_cell BK281.out 2).trans rfl⟩ (fun hHeld => ?_)
    clear hK K
    refine norm_ (a' := ?_) ?_ ?_
    rotate_left
    · show Act.put _ (some 13) _ = _
      simp only [Act.put, List.setIfInBounds_toArray, List.set_cons_zero, List.set_cons_succ, i64_w, i32_w]
      rfl
    refine one_ (i := 5) (N := some 16) #[true, true, true, true, true, true, false, false, false, false, false] rfl rfl (one_of HT_.out (by kernel_rfl)) (by decide) (fun K hK => ?_)
    refine goes_ Tryd.func21 (by kernel_rfl) rfl #[.int .u64 a0_2] (by rfl) rfl rfl (by (try simp only [List.map_toArray, List.map_cons, List.map_nil]); first | done | rfl | (simp only [List.length_drop, List.length_take]; rfl)) ?_
    with_reducible refine (nat_Of.calls k a0_2 t287 _ A5.out).mono ?_
    rintro e w14 ⟨v288, rfl, ho0, hb⟩
    refine ⟨_, rfl, ?_⟩
    have n0_ := Aside0.mk (Kd.R_elder' (by (with_reducible repeat (first | apply Kd.R_alloc | apply Kd.R_drewN | apply Kd.R_drew)); exact HO286.out) (Kd.R_base ho0) hb)
    have n1_ := Aside0.mk (Kd.R_lower (Kd.R_new' ho0 (Kd.R_lt (by (with_reducible repeat (first | apply Kd.R_alloc | apply Kd.R_drewN | apply Kd.R_drew)); exact HO286.out))) (below_size (by repeat (first | (with_reducible first | exact HB.out | apply below_alloc | apply pw_below_drewN | apply below_drew1 | refine below_set ?_ GE281.out | refine below_set ?_ GE282.out) | exact HB.out))))
    have n2_ := Aside0.mk (blk_below (g := gb281) (o := .cells #[.string a0_0, .int .u64 a0_1, .int .u64 a0_2] 25 (0, 0)) (by (with_reducible repeat (first | refine blk_drewN ?_ _ | refine blk_drew ?_ | refine blk_alloc ?_ _)); exact BK281.out) hb)
    have n3_ := Aside0.mk (blk_below (g := gb282) (o := .cells #[.slice none 0 0, .slice none 0 0] 34 (0, 0)) (by (with_reducible repeat (first | refine blk_drewN ?_ _ | refine blk_drew ?_ | refine blk_alloc ?_ _)); exact BK282.out) hb)
    have n4_ := Aside0.mk (below_step (by repeat (first | (with_reducible first | exact HB.out | apply below_alloc | apply pw_below_drewN | apply below_drew1 | refine below_set ?_ GE281.out | refine below_set ?_ GE282.out) | exact HB.out)) hb)
    clear HO286
    clear BK281
    clear BK282
    clear HB
    have HO286 := n0_
    have HO289 := n1_
    have BK281 := n2_
    have BK282 := n3_
    have HB := n4_
    clear n0_ n1_ n2_ n3_ n4_
    (try clear hb)
    (try clear hb2)
    (try clear hk)
    (try clear hi)
    (try clear ho0)
    obtain ⟨Ao15, co15, eo15⟩ := Kd.R_slice HO286.out
    (first | subst eo15 | (injection eo15 with f1_ f2_ f3_; have f4_ := f1_.symm; have f5_ := f3_.symm; clear f1_ f2_ f3_; subst f4_; subst f5_))
    obtain ⟨Ao16, co16, eo16⟩ := Kd.R_slice HO289.out
    (first | subst eo16 | (injection eo16 with f1_ f2_ f3_; have f4_ := f1_.symm; have f5_ := f3_.symm; clear f1_ f2_ f3_; subst f4_; subst f5_))
    refine hK.out _ _ ⟨(blk_cell BK281.out 0).trans rfl, (blk_cell BK281.out 1).trans rfl, (blk_cell BK281.out 2).trans rfl⟩ (fun hHeld => ?_)
    clear hK K
    refine norm_ (a' := ?_) ?_ ?_
    rotate_left
    · show Act.put _ (some 16) _ = _
      simp only [Act.put, List.setIfInBounds_toArray, List.set_cons_zero, List.set_cons_succ, i64_w, i32_w]
      rfl
    refine one_ (i := 6) (N := some 17) #[true, true, true, true, true, true, true, false, false, false, false] rfl rfl (one_of HT_.out (by kernel_rfl)) (by decide) (fun K hK => ?_)
    refine goes_ Tryd.func20 (by kernel_rfl) rfl #[.slice Ao15 t284.length co15, .slice Ao16 t287.length co16] (by rfl) rfl rfl (by (try simp only [List.map_toArray, List.map_cons, List.map_nil]); first | done | rfl | (simp only [List.length_drop, List.length_take]; rfl)) ?_
    with_reducible refine (rat_Make.calls k _ _ t284 _ _ t287 t290 t293 t296 _ ?side1 ?side2 ?side3 ?side4 A6.out).mono ?_
    (case side1 => repeat (first | exact (Kd.R_reads' HO286.out).2.2 | (with_reducible refine Kd.C_alloc ?_ _) | (with_reducible refine Kd.C_drewN ?_ _) | (with_reducible refine Kd.C_drew ?_)))
    (case side2 => exact (Kd.R_reads' HO286.out).2.1)
    (case side3 => repeat (first | exact (Kd.R_reads' HO289.out).2.2 | (with_reducible refine Kd.C_alloc ?_ _) | (with_reducible refine Kd.C_drewN ?_ _) | (with_reducible refine Kd.C_drew ?_)))
    (case side4 => exact (Kd.R_reads' HO289.out).2.1)
    rintro e w17 ⟨v291, v294, rfl, ho0, ho1, hb⟩
    refine ⟨_, rfl, ?_⟩
    have n0_ := Aside0.mk (Kd.R_mono (Kd.R_told (Kd.R_told (Kd.R_old (by (with_reducible repeat (first | apply Kd.R_alloc | apply Kd.R_drewN | apply Kd.R_drew)); exact HO286.out) hb) (Kd.R_base ho0)) (Kd.R_base ho1)) (fun _ h_ => h_.1))
    have n1_ := Aside0.mk (Kd.R_mono (Kd.R_told (Kd.R_told (Kd.R_old (by (with_reducible repeat (first | apply Kd.R_alloc | apply Kd.R_drewN | apply Kd.R_drew)); exact HO289.out) hb) (Kd.R_base ho0)) (Kd.R_base ho1)) (fun _ h_ => h_.1))
    have n2_ := Aside0.mk (Kd.R_lower (Kd.R_new' (Kd.R_new' ho0 (Kd.R_lt (by (with_reducible repeat (first | apply Kd.R_alloc | apply Kd.R_drewN | apply Kd.R_drew)); exact HO286.out))) (Kd.R_lt (by (with_reducible repeat (first | apply Kd.R_alloc | apply Kd.R_drewN | apply Kd.R_drew)); exact HO289.out))) (below_size (by repeat (first | (with_reducible first | exact HB.out | apply below_alloc | apply pw_below_drewN | apply below_drew1 | refine below_set ?_ GE281.out | refine below_set ?_ GE282.out) | exact HB.out))))
    have n3_ := Aside0.mk (Kd.R_lower (Kd.R_new' (Kd.R_new' ho1 (Kd.R_lt (by (with_reducible repeat (first | apply Kd.R_alloc | apply Kd.R_drewN | apply Kd.R_drew)); exact HO286.out))) (Kd.R_lt (by (with_reducible repeat (first | apply Kd.R_alloc | apply Kd.R_drewN | apply Kd.R_drew)); exact HO289.out))) (below_size (by repeat (first | (with_reducible first | exact HB.out | apply below_alloc | apply pw_below_drewN | apply below_drew1 | refine below_set ?_ GE281.out | refine below_set ?_ GE282.out) | exact HB.out))))
    have n4_ := Aside0.mk (blk_below (g := gb281) (o := .cells #[.string a0_0, .int .u64 a0_1, .int .u64 a0_2] 25 (0, 0)) (by (with_reducible repeat (first | refine blk_drewN ?_ _ | refine blk_drew ?_ | refine blk_alloc ?_ _)); exact BK281.out) hb)
    have n5_ := Aside0.mk (blk_below (g := gb282) (o := .cells #[.slice none 0 0, .slice none 0 0] 34 (0, 0)) (by (with_reducible repeat (first | refine blk_drewN ?_ _ | refine blk_drew ?_ | refine blk_alloc ?_ _)); exact BK282.out) hb)
    have n6_ := Aside0.mk (below_step (by repeat (first | (with_reducible first | exact HB.out | apply below_alloc | apply pw_below_drewN | apply below_drew1 | refine below_set ?_ GE281.out | refine below_set ?_ GE282.out) | exact HB.out)) hb)
    clear HO286
    clear HO289
    clear BK281
    clear BK282
    clear HB
    have HO286 := n0_
    have HO289 := n1_
    have HO292 := n2_
    have HO295 := n3_
    have BK281 := n4_
    have BK282 := n5_
    have HB := n6_
    clear n0_ n1_ n2_ n3_ n4_ n5_ n6_
    (try clear hb)
    (try clear hb2)
    (try clear hk)
    (try clear hi)
    (try clear ho0)
    (try clear ho1)
    obtain ⟨Ao18, co18, eo18⟩ := Kd.R_slice HO292.out
    (first | subst eo18 | (injection eo18 with f1_ f2_ f3_; have f4_ := f1_.symm; have f5_ := f3_.symm; clear f1_ f2_ f3_; subst f4_; subst f5_))
    obtain ⟨Ao20, co20, eo20⟩ := Kd.R_slice HO295.out
    (first | subst eo20 | (injection eo20 with f1_ f2_ f3_; have f4_ := f1_.symm; have f5_ := f3_.symm; clear f1_ f2_ f3_; subst f4_; subst f5_))
    refine hK.out _ _ ⟨(blk_cell BK281.out 0).trans rfl, (blk_cell BK281.out 1).trans rfl, (blk_cell BK281.out 2).trans rfl⟩ (fun hHeld => ?_)
    clear hK K
    refine norm_ (a' := ?_) ?_ ?_
    rotate_left
    · show Act.put _ (some 17) _ = _
      simp only [Act.put, List.setIfInBounds_toArray, List.set_cons_zero, List.set_cons_succ, i64_w, i32_w]
      rfl
    refine pure_ (i := 7) (N := some 18) (v := ?_) (a' := ?_) #[true, true, true, true, true, true, true, true, false, false, false] rfl rfl (any_of HT_.out (by kernel_rfl)) (fun _ _ _ h => h) (Or.inl ⟨by rfl, ?_⟩) ?_ ?_
    rotate_left
    · intro w'
      go_simp
      with_reducible rfl
    rotate_left
    · simp only [Act.put, List.setIfInBounds_toArray, List.set_cons_zero, List.set_cons_succ, i64_w, i32_w]
      rfl
    refine pure_ (i := 8) (N := some 19) (v := ?_) (a' := ?_) #[true, true, true, true, true, true, true, true, true, false, false] rfl rfl (any_of HT_.out (by kernel_rfl)) (fun _ _ _ h => h) (Or.inl ⟨by rfl, ?_⟩) ?_ ?_
    rotate_left
    · intro w'
      go_simp
      with_reducible rfl
    rotate_left
    · simp only [Act.put, List.setIfInBounds_toArray, List.set_cons_zero, List.set_cons_succ, i64_w, i32_w]
      rfl
    refine one_ (i := 9) (N := none) #[true, true, true, true, true, true, true, true, true, true, false] rfl rfl (one_of HT_.out (by kernel_rfl)) (by decide) (fun K hK => ?_)
    have hs19 : w17.cell? ⟨gb282, 0, none⟩ = some (.slice none 0 0) := (blk_cell BK282.out 0).trans rfl
    have hfs19 := blk_frozen BK282.out 0
    have hns19_0 := NB281_282.out
    have hms19_0 := NB282_281.out
    have hs21 : w17.cell? ⟨gb282, 1, none⟩ = some (.slice none 0 0) := (blk_cell BK282.out 1).trans rfl
    have hfs21 := blk_frozen BK282.out 1
    have hns21_0 := NB281_282.out
    have hms21_0 := NB282_281.out
    refine skip_ (w1 := ?_) (by rfl) rfl ?_ ?_
    rotate_left
    · go_simp
      rfl
    refine hK.out _ _ ⟨((cell_far (p := ⟨gb282, _, none⟩) NB281_282.out _).trans (((cell_far (p := ⟨gb282, _, none⟩) NB281_282.out _).trans (hHeld.1)))), ((cell_far (p := ⟨gb282, _, none⟩) NB281_282.out _).trans (((cell_far (p := ⟨gb282, _, none⟩) NB281_282.out _).trans (hHeld.2.1)))), ((cell_far (p := ⟨gb282, _, none⟩) NB281_282.out _).trans (((cell_far (p := ⟨gb282, _, none⟩) NB281_282.out _).trans (hHeld.2.2))))⟩ (fun hHeld => ?_)
    clear hK K
    refine pure_ (i := 10) (N := some 3) (v := ?_) (a' := ?_) #[true, true, true, true, true, true, true, true, true, true, true] rfl rfl (any_of HT_.out (by kernel_rfl)) (fun _ _ _ h => h) (Or.inl ⟨by rfl, ?_⟩) ?_ ?_
    rotate_left
    · intro w'
      go_simp
      with_reducible rfl
    rotate_left
    · simp only [Act.put, List.setIfInBounds_toArray, List.set_cons_zero, List.set_cons_succ, i64_w, i32_w]
      rfl
    refine done_ (done_of HT_.out (by kernel_rfl)) ?_
    try go_wp2
    refine bodyPost_ret (results_ct rfl _ _ gb282 34 #[.slice Ao18 t290.length co18, .slice Ao20 t293.length co20] (0, 0) _ rfl (by (with_reducible repeat (first | refine blk_drewN ?_ _ | refine blk_drew ?_ | refine blk_alloc ?_ _)); refine blk_put (cs := #[.slice Ao18 t290.length co18, .slice none 0 0]) ?_ 1 _ rfl; (with_reducible repeat (first | refine blk_drewN ?_ _ | refine blk_drew ?_ | refine blk_alloc ?_ _)); refine blk_put (cs := #[.slice none 0 0, .slice none 0 0]) ?_ 0 _ rfl; (with_reducible repeat (first | refine blk_drewN ?_ _ | refine blk_drew ?_ | refine blk_alloc ?_ _)); exact BK282.out) Tryd.underlying34 rfl (by kernel_rfl)) rfl ?_
    exact ⟨_, _, by first | rfl | (simp [errW_none, errW_some] <;> rfl) | (simp [*, errW_none, errW_some] <;> rfl), by (with_reducible repeat (first | apply Kd.R_alloc | apply Kd.R_drewN | apply Kd.R_drew)); exact Kd.R_mono (Kd.R_far (p := ⟨gb282, 1, none⟩) (Kd.R_far (p := ⟨gb282, 0, none⟩) (Kd.R_types HO292.out BK282.out (by decide)) (fun _ hk => hk.2) (.slice Ao18 t290.length co18)) (fun _ hk => hk.2) (.slice Ao20 t293.length co20)) (fun _ hk => hk.1.1.1), by (with_reducible repeat (first | apply Kd.R_alloc | apply Kd.R_drewN | apply Kd.R_drew)); exact Kd.R_mono (Kd.R_far (p := ⟨gb282, 1, none⟩) (Kd.R_far (p := ⟨gb282, 0, none⟩) (Kd.R_types HO295.out BK282.out (by decide)) (fun _ hk => hk.2) (.slice Ao18 t290.length co18)) (fun _ hk => hk.2) (.slice Ao20 t293.length co20)) (fun _ hk => hk.1.1.1), by repeat (first | (with_reducible first | exact HB.out | apply below_alloc | apply pw_below_drewN | apply below_drew1 | refine below_set ?_ GE281.out | refine below_set ?_ GE282.out) | exact HB.out)⟩
  · rw [if_neg c3] at H
    exact absurd H (by simp)

/-! ### keep_Threshold: function 8 -/
def keep_Threshold.f (k : Nat) (a0 : Int) (l1 : List (S25)) : Option (List Int × List Int × Bool) := (keep_Right.f k a0 l1).bind fun t298 => (if t298 = true then (if (l1.length : Int) ≤ a0 then (some (([] : List Int), ([] : List Int), false)) else (if 0 ≤ a0 then (if a0 < (l1.length : Int) then ((rank_Rank.f k ((rd_T25 l1 a0).f0) ((rd_T25 l1 a0).f1) ((rd_T25 l1 a0).f2)).bind fun bt300 => (some (bt300.1, bt300.2.1, true))) else (none)) else (none))) else (none))
theorem keep_Threshold.mono : ∀ a0 a1 k, LeO (keep_Threshold.f k a0 a1) (keep_Threshold.f (k + 1) a0 a1) := by
  intro a0 a1 k
  unfold keep_Threshold.f
  repeat' first
      | (with_reducible exact keep_Right.mono _ _ _)
      | (with_reducible exact rank_Rank.mono _ _ _ _)
      | (with_reducible exact LeO.refl _)
      | (with_reducible exact LeO.none _)
      | (with_reducible refine LeO.ite ?_ ?_)
      | (with_reducible refine LeO.bind ?_ (fun _ => ?_))
      | exact keep_Right.mono _ _ _
      | exact rank_Rank.mono _ _ _ _
      | exact LeO.none _
      | refine LeO.ite ?_ ?_
      | refine LeO.bind ?_ (fun _ => ?_)
set_option maxHeartbeats 8000000 in
set_option maxRecDepth 100000 in
theorem keep_Threshold.calls (k : Nat) (a0 : Int) (A1 : Option Addr) (c1 : Nat) (l1 : List (S25)) (r1 : List Int) (r2 : List Int) (r3 : Bool) (w : World) (hr1 : Kd.C k25 w A1 l1.length l1) (hc1 : l1.length ≤ c1) (h : keep_Threshold.f k a0 l1 = some (r1, r2, r3)) :
    Calls Tryd.prog 8 #[.int .i64 a0, .slice A1 l1.length c1] w fun e w' => ∃ v0_ v1_ : Value, e = .returned (.tuple #[.agg #[v0_, v1_], .bool r3]) ∧ Kd.R (Kd.int .u32) 76 w' w.heap.size (fun k_ => some k_ ≠ (v1_ : Value).ownBlock) v0_ r1 ∧ Kd.R (Kd.int .u32) 76 w' w.heap.size (fun k_ => some k_ ≠ (v0_ : Value).ownBlock) v1_ r2 ∧ Below w.heap.size w w' := by
  have hu34 := Tryd.underlying34
  have hu25 := Tryd.underlying25
  have HR1 := Aside0.mk hr1
  have HC1 := Aside0.mk hc1
  clear hr1 hc1
  have HB := Aside0.mk (Below.refl w.heap.size w)
  have H : ((keep_Right.f k a0 l1).bind fun t298 => (if t298 = true then (if (l1.length : Int) ≤ a0 then (some (([] : List Int), ([] : List Int), false)) else (if 0 ≤ a0 then (if a0 < (l1.length : Int) then ((rank_Rank.f k ((rd_T25 l1 a0).f0) ((rd_T25 l1 a0).f1) ((rd_T25 l1 a0).f2)).bind fun bt300 => (some (bt300.1, bt300.2.1, true))) else (none)) else (none))) else (none))) = some (r1, r2, r3) := h
  clear h
  replace H := Option.bind_eq_some_iff.mp H
  obtain ⟨t298, A30, H⟩ := H
  replace H : (if t298 = true then (if (l1.length : Int) ≤ a0 then (some (([] : List Int), ([] : List Int), false)) else (if 0 ≤ a0 then (if a0 < (l1.length : Int) then ((rank_Rank.f k ((rd_T25 l1 a0).f0) ((rd_T25 l1 a0).f1) ((rd_T25 l1 a0).f2)).bind fun bt300 => (some (bt300.1, bt300.2.1, true))) else (none)) else (none))) else (none)) = some (r1, r2, r3) := H
  have A3 := Aside0.mk A30
  clear A30
  by_cases c4 : t298 = true
  · subst c4
    have H1 : (if (l1.length : Int) ≤ a0 then (some (([] : List Int), ([] : List Int), false)) else (if 0 ≤ a0 then (if a0 < (l1.length : Int) then ((rank_Rank.f k ((rd_T25 l1 a0).f0) ((rd_T25 l1 a0).f1) ((rd_T25 l1 a0).f2)).bind fun bt300 => (some (bt300.1, bt300.2.1, true))) else (none)) else (none))) = some (r1, r2, r3) := by rw [if_pos rfl] at H; exact H
    clear H
    have H := H1
    clear H1
    by_cases c5 : (l1.length : Int) ≤ a0
    · rw [if_pos c5] at H
      have c5b0 : decide ((l1.length : Int) ≤ a0) = true := decide_eq_true c5
      clear c5
      simp only [Option.some.injEq, Prod.mk.injEq] at H
      obtain ⟨rfl, rfl, rfl⟩ := H
      go_enter Tryd.func8, Tryd.ntmps8
      go_wp2_with (first | ((with_reducible refine gate_dst (N := 4) rfl ?_); (try (refine gate_guard (by rfl) ?_; dsimp only)); refine box_event ?hg (N := 4) ?hd (cs := #[.slice none 0 0, .slice none 0 0]) (t := 34) ?hr ?_; (case hd => rfl); (case hg => rfl); (case hr => first | (go_simp; done) | (go_simp; rfl)); intro gb297 hg w6 hbox hb; have n0_ := Aside0.mk (below_step (by repeat (first | (with_reducible first | exact HB.out | apply below_alloc | apply pw_below_drewN | apply below_drew1) | exact HB.out)) hb); have n1_ := Aside0.mk (hbox); have n2_ := Aside0.mk ((by rw [hg]; exact (below_size (by repeat (first | (with_reducible first | exact HB.out | apply below_alloc | apply pw_below_drewN | apply below_drew1) | exact HB.out))) : w.heap.size ≤ gb297)); have n3_ := Aside0.mk ((by rw [hg]; exact (below_size (by repeat (first | (with_reducible first | exact HB.out | apply below_alloc | apply pw_below_drewN | apply below_drew1) | exact HB.out))) : w.heap.size ≤ gb297)); clear HB; have HB := n0_; have BK297 := n1_; have GW297 := n2_; have GE297 := n3_; clear n0_ n1_ n2_ n3_; clear hb hbox hg) | ((with_reducible refine gate_callee (f := 5) rfl ?_); refine goesL_ (some 10) rfl rfl Tryd.func5 (by kernel_rfl) rfl #[.int .i64 a0, .slice A1 l1.length c1] rfl (by (try simp only [List.map_toArray, List.map_cons, List.map_nil]); first | done | rfl | (simp only [List.length_drop, List.length_take]; rfl)) ?_; (with_reducible refine (keep_Right.calls k a0 _ _ l1 true _ ?side1 ?side2 A3.out).mono ?_); (case side1 => repeat (first | exact (Kd.C_below HR1.out HB.out) | (with_reducible refine Kd.C_alloc ?_ _) | (with_reducible refine Kd.C_drewN ?_ _) | (with_reducible refine Kd.C_drew ?_))); (case side2 => exact HC1.out); rintro e w7 ⟨rfl, hb⟩; refine ⟨_, rfl, ?_⟩; have n0_ := Aside0.mk (blk_below (g := gb297) (o := .cells #[.slice none 0 0, .slice none 0 0] 34 (0, 0)) (by (with_reducible repeat (first | refine blk_drewN ?_ _ | refine blk_drew ?_ | refine blk_alloc ?_ _)); exact BK297.out) hb); have n1_ := Aside0.mk (below_step (by repeat (first | (with_reducible first | exact HB.out | apply below_alloc | apply pw_below_drewN | apply below_drew1 | refine below_set ?_ GE297.out) | exact HB.out)) hb); clear BK297; clear HB; have BK297 := n0_; have HB := n1_; clear n0_ n1_; (try clear hb); (try clear hb2); (try clear hk); (try clear hi); have hcz8_0 : w7.cell? ⟨gb297, 0, none⟩ = some (.slice none 0 0) := (blk_cell BK297.out 0).trans rfl; have hcz8_1 : w7.cell? ⟨gb297, 1, none⟩ = some (.slice none 0 0) := (blk_cell BK297.out 1).trans rfl; have hfz8_0 := blk_frozen BK297.out 0; have hfz8_1 := blk_frozen BK297.out 1))
      refine bodyPost_ret (results_ct rfl _ _ gb297 34 #[.slice none 0 0, .slice none 0 0] (0, 0) _ rfl (by (with_reducible repeat (first | refine blk_drewN ?_ _ | refine blk_drew ?_ | refine blk_alloc ?_ _)); refine blk_put (cs := #[.slice none 0 0, .slice none 0 0]) ?_ 1 _ rfl; (with_reducible repeat (first | refine blk_drewN ?_ _ | refine blk_drew ?_ | refine blk_alloc ?_ _)); refine blk_put (cs := #[.slice none 0 0, .slice none 0 0]) ?_ 0 _ rfl; (with_reducible repeat (first | refine blk_drewN ?_ _ | refine blk_drew ?_ | refine blk_alloc ?_ _)); exact BK297.out) Tryd.underlying34 rfl (by kernel_rfl)) rfl ?_
      exact ⟨_, _, by first | rfl | (simp [errW_none, errW_some] <;> rfl) | (simp [*, errW_none, errW_some] <;> rfl), by first | exact Kd.R_nil _ _ _ _ _ | exact Kd.N_nil _ _ _ _ _ | exact Kd.V_nil _ _ _ _ _ | exact Kd.Q_nil _ _ _ _ _ | exact Kd.S_nil _ _ _ _ _, by first | exact Kd.R_nil _ _ _ _ _ | exact Kd.N_nil _ _ _ _ _ | exact Kd.V_nil _ _ _ _ _ | exact Kd.Q_nil _ _ _ _ _ | exact Kd.S_nil _ _ _ _ _, by repeat (first | (with_reducible first | exact HB.out | apply below_alloc | apply pw_below_drewN | apply below_drew1 | refine below_set ?_ GE297.out) | exact HB.out)⟩
    · rw [if_neg c5] at H
      have c5b0 : decide ((l1.length : Int) ≤ a0) = false := decide_eq_false c5
      clear c5
      by_cases c9 : 0 ≤ a0
      · rw [if_pos c9] at H
        have c9b0 : decide (0 ≤ a0) = true := decide_eq_true c9
        clear c9
        by_cases c10 : a0 < (l1.length : Int)
        · rw [if_pos c10] at H
          have c10b0 : decide (a0 < (l1.length : Int)) = true := decide_eq_true c10
          clear c10
          replace H := Option.bind_eq_some_iff.mp H
          obtain ⟨⟨t300, t303, t306⟩, A110, H⟩ := H
          replace H : (some (t300, t303, true)) = some (r1, r2, r3) := H
          have A11 := Aside0.mk A110
          clear A110
          simp only [Option.some.injEq, Prod.mk.injEq] at H
          obtain ⟨rfl, rfl, rfl⟩ := H
          go_enter Tryd.func8, Tryd.ntmps8
          go_wp2_with (first | ((with_reducible refine gate_dst (N := 4) rfl ?_); (try (refine gate_guard (by rfl) ?_; dsimp only)); refine box_event ?hg (N := 4) ?hd (cs := #[.slice none 0 0, .slice none 0 0]) (t := 34) ?hr ?_; (case hd => rfl); (case hg => rfl); (case hr => first | (go_simp; done) | (go_simp; rfl)); intro gb297 hg w12 hbox hb; have n0_ := Aside0.mk (below_step (by repeat (first | (with_reducible first | exact HB.out | apply below_alloc | apply pw_below_drewN | apply below_drew1) | exact HB.out)) hb); have n1_ := Aside0.mk (hbox); have n2_ := Aside0.mk ((by rw [hg]; exact (below_size (by repeat (first | (with_reducible first | exact HB.out | apply below_alloc | apply pw_below_drewN | apply below_drew1) | exact HB.out))) : w.heap.size ≤ gb297)); have n3_ := Aside0.mk ((by rw [hg]; exact (below_size (by repeat (first | (with_reducible first | exact HB.out | apply below_alloc | apply pw_below_drewN | apply below_drew1) | exact HB.out))) : w.heap.size ≤ gb297)); clear HB; have HB := n0_; have BK297 := n1_; have GW297 := n2_; have GE297 := n3_; clear n0_ n1_ n2_ n3_; clear hb hbox hg) | ((with_reducible refine gate_callee (f := 5) rfl ?_); refine goesL_ (some 10) rfl rfl Tryd.func5 (by kernel_rfl) rfl #[.int .i64 a0, .slice A1 l1.length c1] rfl (by (try simp only [List.map_toArray, List.map_cons, List.map_nil]); first | done | rfl | (simp only [List.length_drop, List.length_take]; rfl)) ?_; (with_reducible refine (keep_Right.calls k a0 _ _ l1 true _ ?side1 ?side2 A3.out).mono ?_); (case side1 => repeat (first | exact (Kd.C_below HR1.out HB.out) | (with_reducible refine Kd.C_alloc ?_ _) | (with_reducible refine Kd.C_drewN ?_ _) | (with_reducible refine Kd.C_drew ?_))); (case side2 => exact HC1.out); rintro e w13 ⟨rfl, hb⟩; refine ⟨_, rfl, ?_⟩; have n0_ := Aside0.mk (blk_below (g := gb297) (o := .cells #[.slice none 0 0, .slice none 0 0] 34 (0, 0)) (by (with_reducible repeat (first | refine blk_drewN ?_ _ | refine blk_drew ?_ | refine blk_alloc ?_ _)); exact BK297.out) hb); have n1_ := Aside0.mk (below_step (by repeat (first | (with_reducible first | exact HB.out | apply below_alloc | apply pw_below_drewN | apply below_drew1 | refine below_set ?_ GE297.out) | exact HB.out)) hb); clear BK297; clear HB; have BK297 := n0_; have HB := n1_; clear n0_ n1_; (try clear hb); (try clear hb2); (try clear hk); (try clear hi); have p299 : 0 ≤ (a0 : Int) := of_decide_eq_true (by first | (with_reducible assumption) | assumption); have q299 : a0 < (l1.length : Int) := of_decide_eq_true (by first | (with_reducible assumption) | assumption); obtain ⟨ad299, e299, hx299_0, hx299_1, hx299_2⟩ := at_T25 HR1.out a0 p299 q299; cases e299; replace hx299_0 := (HB.out.cell (World.block_lt_of_cell? w _ hx299_0)).trans hx299_0; replace hx299_1 := (HB.out.cell (World.block_lt_of_cell? w _ hx299_1)).trans hx299_1; replace hx299_2 := (HB.out.cell (World.block_lt_of_cell? w _ hx299_2)).trans hx299_2; replace p299 := eq_true p299; replace q299 := eq_true q299) | ((with_reducible refine gate_callee (f := 11) rfl ?_); refine goesL_ (some 24) rfl rfl Tryd.func11 (by kernel_rfl) rfl #[.agg #[.string ((rd_T25 l1 a0).f0), .int .u64 ((rd_T25 l1 a0).f1), .int .u64 ((rd_T25 l1 a0).f2)]] rfl (by (try simp only [List.map_toArray, List.map_cons, List.map_nil]); first | done | rfl | (simp only [List.length_drop, List.length_take]; rfl)) ?_; (with_reducible refine (rank_Rank.calls k ((rd_T25 l1 a0).f0) ((rd_T25 l1 a0).f1) ((rd_T25 l1 a0).f2) t300 t303 t306 _ A11.out).mono ?_); rintro e w14 ⟨v301, v304, rfl, ho0, ho1, hb⟩; refine ⟨_, rfl, ?_⟩; have n0_ := Aside0.mk (Kd.R_lower ho0 (below_size (by repeat (first | (with_reducible first | exact HB.out | apply below_alloc | apply pw_below_drewN | apply below_drew1 | refine below_set ?_ GE297.out) | exact HB.out)))); have n1_ := Aside0.mk (Kd.R_lower ho1 (below_size (by repeat (first | (with_reducible first | exact HB.out | apply below_alloc | apply pw_below_drewN | apply below_drew1 | refine below_set ?_ GE297.out) | exact HB.out)))); have n2_ := Aside0.mk (blk_below (g := gb297) (o := .cells #[.slice none 0 0, .slice none 0 0] 34 (0, 0)) (by (with_reducible repeat (first | refine blk_drewN ?_ _ | refine blk_drew ?_ | refine blk_alloc ?_ _)); exact BK297.out) hb); have n3_ := Aside0.mk (below_step (by repeat (first | (with_reducible first | exact HB.out | apply below_alloc | apply pw_below_drewN | apply below_drew1 | refine below_set ?_ GE297.out) | exact HB.out)) hb); clear BK297; clear HB; have HO302 := n0_; have HO305 := n1_; have BK297 := n2_; have HB := n3_; clear n0_ n1_ n2_ n3_; (try clear hb); (try clear hb2); (try clear hk); (try clear hi); (try clear ho0); (try clear ho1)) | ((with_reducible refine gate_dst (N := 6) rfl ?_); (try (refine gate_guard (by rfl) ?_; dsimp only)); refine box_event ?hg (N := 6) ?hd (cs := #[.slice none 0 0, .slice none 0 0]) (t := 34) ?hr ?_; (case hd => rfl); (case hg => rfl); (case hr => first | (go_simp; done) | (go_simp; rfl)); intro gb307 hg w15 hbox hb; have n0_ := Aside0.mk (Kd.R_below (by (with_reducible repeat (first | apply Kd.R_alloc | apply Kd.R_drewN | apply Kd.R_drew)); exact HO302.out) hb); have n1_ := Aside0.mk (Kd.R_below (by (with_reducible repeat (first | apply Kd.R_alloc | apply Kd.R_drewN | apply Kd.R_drew)); exact HO305.out) hb); have n2_ := Aside0.mk (blk_below (g := gb297) (o := .cells #[.slice none 0 0, .slice none 0 0] 34 (0, 0)) (by (with_reducible repeat (first | refine blk_drewN ?_ _ | refine blk_drew ?_ | refine blk_alloc ?_ _)); exact BK297.out) hb); have n3_ := Aside0.mk (below_step (by repeat (first | (with_reducible first | exact HB.out | apply below_alloc | apply pw_below_drewN | apply below_drew1 | refine below_set ?_ GE297.out) | exact HB.out)) hb); have n4_ := Aside0.mk (hbox); have n5_ := Aside0.mk ((by rw [hg]; exact (below_size (by repeat (first | (with_reducible first | exact HB.out | apply below_alloc | apply pw_below_drewN | apply below_drew1 | refine below_set ?_ GE297.out) | exact HB.out))) : w.heap.size ≤ gb307)); have n6_ := Aside0.mk ((by rw [hg]; exact (below_size (by repeat (first | (with_reducible first | exact HB.out | apply below_alloc | apply pw_below_drewN | apply below_drew1 | refine below_set ?_ GE297.out) | exact HB.out))) : w.heap.size ≤ gb307)); have n7_ := Aside0.mk ((by rw [hg]; exact Nat.ne_of_lt (blk_lt (g := gb297) (o := .cells #[.slice none 0 0, .slice none 0 0] 34 (0, 0)) (by (with_reducible repeat (first | refine blk_drewN ?_ _ | refine blk_drew ?_ | refine blk_alloc ?_ _)); exact BK297.out)) : gb297 ≠ gb307)); have n8_ := Aside0.mk ((by rw [hg]; exact Nat.ne_of_gt (blk_lt (g := gb297) (o := .cells #[.slice none 0 0, .slice none 0 0] 34 (0, 0)) (by (with_reducible repeat (first | refine blk_drewN ?_ _ | refine blk_drew ?_ | refine blk_alloc ?_ _)); exact BK297.out)) : gb307 ≠ gb297)); clear HO302; clear HO305; clear BK297; clear HB; have HO302 := n0_; have HO305 := n1_; have BK297 := n2_; have HB := n3_; have BK307 := n4_; have GW307 := n5_; have GE307 := n6_; have NB297_307 := n7_; have NB307_297 := n8_; clear n0_ n1_ n2_ n3_ n4_ n5_ n6_ n7_ n8_; clear hb hbox hg; obtain ⟨Ao16, co16, eo16⟩ := Kd.R_slice HO302.out; subst eo16; have hnb17 := NB307_297.out; have hnc17 := NB297_307.out; have hcz18_0 : w15.cell? ⟨gb307, 0, none⟩ = some (.slice none 0 0) := (blk_cell BK307.out 0).trans rfl; have hcz18_1 : w15.cell? ⟨gb307, 1, none⟩ = some (.slice none 0 0) := (blk_cell BK307.out 1).trans rfl; have hfz18_0 := blk_frozen BK307.out 0; have hfz18_1 := blk_frozen BK307.out 1; obtain ⟨Ao19, co19, eo19⟩ := Kd.R_slice HO305.out; subst eo19; have hcz20_0 : w15.cell? ⟨gb297, 0, none⟩ = some (.slice none 0 0) := (blk_cell BK297.out 0).trans rfl; have hcz20_1 : w15.cell? ⟨gb297, 1, none⟩ = some (.slice none 0 0) := (blk_cell BK297.out 1).trans rfl; have hfz20_0 := blk_frozen BK297.out 0; have hfz20_1 := blk_frozen BK297.out 1))
          refine bodyPost_ret (results_ct rfl _ _ gb297 34 #[.slice Ao16 t300.length co16, .slice Ao19 t303.length co19] (0, 0) _ rfl (by (with_reducible repeat (first | refine blk_drewN ?_ _ | refine blk_drew ?_ | refine blk_alloc ?_ _)); refine blk_put (cs := #[.slice Ao16 t300.length co16, .slice none 0 0]) ?_ 1 _ rfl; (with_reducible repeat (first | refine blk_drewN ?_ _ | refine blk_drew ?_ | refine blk_alloc ?_ _)); refine blk_put (cs := #[.slice none 0 0, .slice none 0 0]) ?_ 0 _ rfl; (with_reducible repeat (first | refine blk_drewN ?_ _ | refine blk_drew ?_ | refine blk_alloc ?_ _)); refine blk_far ?_ NB297_307.out _; (with_reducible repeat (first | refine blk_drewN ?_ _ | refine blk_drew ?_ | refine blk_alloc ?_ _)); refine blk_far ?_ NB297_307.out _; (with_reducible repeat (first | refine blk_drewN ?_ _ | refine blk_drew ?_ | refine blk_alloc ?_ _)); exact BK297.out) Tryd.underlying34 rfl (by kernel_rfl)) rfl ?_
          exact ⟨_, _, by first | rfl | (simp [errW_none, errW_some] <;> rfl) | (simp [*, errW_none, errW_some] <;> rfl), by (with_reducible repeat (first | apply Kd.R_alloc | apply Kd.R_drewN | apply Kd.R_drew)); exact Kd.R_mono (Kd.R_far (p := ⟨gb297, 1, none⟩) (Kd.R_far (p := ⟨gb297, 0, none⟩) (Kd.R_far (p := ⟨gb307, 1, none⟩) (Kd.R_far (p := ⟨gb307, 0, none⟩) (Kd.R_types (Kd.R_types HO302.out BK307.out (by decide)) BK297.out (by decide)) (fun _ hk => hk.1.2) (.slice Ao16 t300.length co16)) (fun _ hk => hk.1.2) (.slice Ao19 t303.length co19)) (fun _ hk => hk.2) (.slice Ao16 t300.length co16)) (fun _ hk => hk.2) (.slice Ao19 t303.length co19)) (fun _ hk => hk.1.1), by (with_reducible repeat (first | apply Kd.R_alloc | apply Kd.R_drewN | apply Kd.R_drew)); exact Kd.R_mono (Kd.R_far (p := ⟨gb297, 1, none⟩) (Kd.R_far (p := ⟨gb297, 0, none⟩) (Kd.R_far (p := ⟨gb307, 1, none⟩) (Kd.R_far (p := ⟨gb307, 0, none⟩) (Kd.R_types (Kd.R_types HO305.out BK307.out (by decide)) BK297.out (by decide)) (fun _ hk => hk.1.2) (.slice Ao16 t300.length co16)) (fun _ hk => hk.1.2) (.slice Ao19 t303.length co19)) (fun _ hk => hk.2) (.slice Ao16 t300.length co16)) (fun _ hk => hk.2) (.slice Ao19 t303.length co19)) (fun _ hk => hk.1.1), by repeat (first | (with_reducible first | exact HB.out | apply below_alloc | apply pw_below_drewN | apply below_drew1 | refine below_set ?_ GE297.out | refine below_set ?_ GE307.out) | exact HB.out)⟩
        · rw [if_neg c10] at H
          exact absurd H (by simp)
      · rw [if_neg c9] at H
        exact absurd H (by simp)
  · replace c4 := Bool.eq_false_iff.mpr c4
    subst c4
    have H1 : (none) = some (r1, r2, r3) := by rw [if_neg (show ¬ (false = true) by decide)] at H; exact H
    clear H
    have H := H1
    clear H1
    exact absurd H (by simp)

/-! ### api_Item_19: function 19 -/
def api_Item_19.f (l0 : List (S25)) : Option ((List (S25))) := (some (([] : List (S25)) : List (S25))).bind fun y308 => (if y308.length + l0.length < 4398046511104 then (some (y308 ++ l0)) else (none))
set_option maxHeartbeats 8000000 in
set_option maxRecDepth 100000 in
theorem api_Item_19.calls (A0 : Option Addr) (c0 : Nat) (l0 : List (S25)) (r : List (S25)) (w : World) (hr0 : Kd.C k25 w A0 l0.length l0) (hc0 : l0.length ≤ c0) (h : api_Item_19.f l0 = some r) :
    Calls Tryd.prog 19 #[.slice A0 l0.length c0] w fun e w' => ∃ v0_ : Value, e = .returned (v0_) ∧ Kd.R k25 25 w' w.heap.size (fun _ => True) v0_ r ∧ Below w.heap.size w w' := by
  have hql_ := fun (W_ : World) (B_ : Option Addr) (a_ b_ : Nat) => Go.Lib.run_eql_slice_nil (P := Tryd.prog) W_ 22 25 B_ a_ b_ 0 0 Tryd.underlying22
  by_cases nn_ : A0 = none
  · subst nn_
    obtain rfl : l0 = [] := by
      rcases l0 with _ | ⟨z_, zs_⟩
      · rfl
      · obtain ⟨ad_, e_, _⟩ := hr0.2.2 (by simp)
        cases e_
    obtain rfl : r = [] := by simpa [api_Item_19.f] using h.symm
    go_enter Tryd.func19, Tryd.ntmps19
    go_wp2
    go_ret
    exact ⟨_, rfl, Kd.R_nil _ _ _ _ _, Below.refl _ _⟩
  obtain ⟨ad0_, rfl⟩ := Option.ne_none_iff_exists'.mp nn_
  have HR0 := Aside0.mk hr0
  have HC0 := Aside0.mk hc0
  clear hr0 hc0
  have HB := Aside0.mk (Below.refl w.heap.size w)
  have H : ((some (([] : List (S25)) : List (S25))).bind fun y308 => (if y308.length + l0.length < 4398046511104 then (some (y308 ++ l0)) else (none))) = some r := h
  clear h
  obtain ⟨y308, hy308⟩ : ∃ y_ : List (S25), y_ = (([] : List (S25))) := ⟨_, rfl⟩
  replace H : (if y308.length + l0.length < 4398046511104 then (some (y308 ++ l0)) else (none)) = some r := by first | (rw [hy308]; with_reducible exact H) | (have H2_ := (Option.bind_some _ _).symm.trans H; rw [hy308]; with_reducible exact H2_) | (have H2_ := (Option.bind_some _ _).symm.trans H; with_reducible exact H2_) | with_reducible exact H | (rw [hy308]; exact H) | exact H
  have Ny308 := Aside0.mk hy308
  clear hy308
  by_cases c2 : y308.length + l0.length < 4398046511104
  · rw [if_pos c2] at H
    have LMc2 := Aside0.mk c2
    clear c2
    obtain ⟨y311, hy311⟩ : ∃ y_ : List (S25), y_ = (y308 ++ l0) := ⟨_, rfl⟩
    replace H : (some y311) = some r := by first | (rw [hy311]; with_reducible exact H) | (have H2_ := (Option.bind_some _ _).symm.trans H; rw [hy311]; with_reducible exact H2_) | (have H2_ := (Option.bind_some _ _).symm.trans H; with_reducible exact H2_) | with_reducible exact H | (rw [hy311]; exact H) | exact H
    have Ny311 := Aside0.mk hy311
    clear hy311
    obtain rfl := Option.some.inj H
    go_enter Tryd.func19, Tryd.ntmps19
    go_wp2_with (first | ((with_reducible refine gate_dst (N := 5) rfl ?_); refine Kd.R_lit k25 _ 25 ?hg (N := 5) ?hd (xs := ([] : List (S25))) (inner := []) (ok := fun _ => True) (okp := fun _ => True) ?hr ?hp (fun _ hk => hk) trivial (Below.refl _ _) (Nat.le_refl _) (by simp) ?_; (case hd => rfl); (case hg => rfl); (case hr => first | (go_simp; done) | (go_simp; rfl)); (case hp => exact (Reps.none _ _)); intro v309 w3 ho4 hb hg_ hnew_; clear hg_ hnew_; (first | rw [← Ny308.out] at ho4 | (simp only [Int.reduceToNat] at ho4; rw [← Ny308.out] at ho4)); have n0_ := Aside0.mk (Kd.R_lower ho4 (below_size (by repeat (first | (with_reducible first | exact HB.out | apply below_alloc | apply pw_below_drewN | apply below_drew1) | exact HB.out)))); have n1_ := Aside0.mk (below_step (by repeat (first | (with_reducible first | exact HB.out | apply below_alloc | apply pw_below_drewN | apply below_drew1) | exact HB.out)) hb); clear HB; have HO310 := n0_; have HB := n1_; clear n0_ n1_; clear hb ho4) | ((with_reducible refine gate_builtin (b := .append) (xs := #[.tmp 5, .tmp 6]) rfl ?_); at_builtin; refine Kd.R_append_rows k25 (w0 := w) w.heap.size rfl (.tmp 5) (.tmp 6) 22 25 (.agg #[(.string ⟨#[]⟩), (.int .u64 0), (.int .u64 0)]) 32 rfl Tryd.underlying22 info25 rfl (by decide) (by omega) v309 y308 l0 _ _ _ (fun _ => True) (fun _ => False) rfl rfl ?aO ?aR (fun _ _ h => h) (fun _ h => h.elim) ?aF ?aB ?aS ?aL ?_; (case aR => repeat (first | exact (Kd.C_below HR0.out HB.out) | (with_reducible refine Kd.C_alloc ?_ _) | (with_reducible refine Kd.C_drewN ?_ _) | (with_reducible refine Kd.C_drew ?_))); (case aB => exact (by repeat (first | (with_reducible first | exact HB.out | apply below_alloc | apply pw_below_drewN | apply below_drew1) | exact HB.out))); (case aF => exact (fun _ _ => trivial)); (case aO => exact (by (with_reducible repeat (first | apply Kd.R_alloc | apply Kd.R_drewN | apply Kd.R_drew)); exact HO310.out)); (case aS => exact (below_size (by repeat (first | (with_reducible first | exact HB.out | apply below_alloc | apply pw_below_drewN | apply below_drew1) | exact HB.out)))); (case aL => have := LMc2.out; omega); intro v312 w5 ho hb hg hat; rw [← Ny311.out] at ho; have n0_ := Aside0.mk (hb); have n1_ := Aside0.mk (ho); clear HB; clear HO310; have HB := n0_; have HO313 := n1_; clear n0_ n1_; clear ho hb hg hat))
    go_ret
    exact ⟨_, by first | rfl | (simp [errW_none, errW_some] <;> rfl) | (simp [*, errW_none, errW_some] <;> rfl), by (with_reducible repeat (first | apply Kd.R_alloc | apply Kd.R_drewN | apply Kd.R_drew)); exact HO313.out, by repeat (first | (with_reducible first | exact HB.out | apply below_alloc | apply pw_below_drewN | apply below_drew1) | exact HB.out)⟩
  · rw [if_neg c2] at H
    exact absurd H (by simp)

/-! ### keep_Sample: function 10 -/
def keep_Sample.f (k : Nat) (a0 : Int) (l1 : List (S25)) : Option ((List (S25))) := (keep_Right.f k a0 l1).bind fun t314 => (if t314 = true then (if 0 ≤ (mn (l1.length : Int) a0) then (if (mn (l1.length : Int) a0) ≤ (l1.length : Int) then ((api_Item_19.f (l1.take ((mn (l1.length : Int) a0) : Int).toNat)).bind fun t319 => (some t319)) else (none)) else (none)) else (none))
theorem keep_Sample.mono : ∀ a0 a1 k, LeO (keep_Sample.f k a0 a1) (keep_Sample.f (k + 1) a0 a1) := by
  intro a0 a1 k
  unfold keep_Sample.f
  repeat' first
      | (with_reducible exact keep_Right.mono _ _ _)
      | (with_reducible exact LeO.refl _)
      | (with_reducible exact LeO.none _)
      | (with_reducible refine LeO.ite ?_ ?_)
      | (with_reducible refine LeO.bind ?_ (fun _ => ?_))
      | exact keep_Right.mono _ _ _
      | exact LeO.none _
      | refine LeO.ite ?_ ?_
      | refine LeO.bind ?_ (fun _ => ?_)
set_option maxHeartbeats 8000000 in
set_option maxRecDepth 100000 in
theorem keep_Sample.calls (k : Nat) (a0 : Int) (A1 : Option Addr) (c1 : Nat) (l1 : List (S25)) (r : List (S25)) (w : World) (hr1 : Kd.C k25 w A1 l1.length l1) (hc1 : l1.length ≤ c1) (h : keep_Sample.f k a0 l1 = some r) :
    Calls Tryd.prog 10 #[.int .i64 a0, .slice A1 l1.length c1] w fun e w' => ∃ v0_ : Value, e = .returned (v0_) ∧ Kd.R k25 25 w' w.heap.size (fun _ => True) v0_ r ∧ Below w.heap.size w w' := by
  have HR1 := Aside0.mk hr1
  have HC1 := Aside0.mk hc1
  clear hr1 hc1
  have HB := Aside0.mk (Below.refl w.heap.size w)
  have H : ((keep_Right.f k a0 l1).bind fun t314 => (if t314 = true then (if 0 ≤ (mn (l1.length : Int) a0) then (if (mn (l1.length : Int) a0) ≤ (l1.length : Int) then ((api_Item_19.f (l1.take ((mn (l1.length : Int) a0) : Int).toNat)).bind fun t319 => (some t319)) else (none)) else (none)) else (none))) = some r := h
  clear h
  replace H := Option.bind_eq_some_iff.mp H
  obtain ⟨t314, A30, H⟩ := H
  replace H : (if t314 = true then (if 0 ≤ (mn (l1.length : Int) a0) then (if (mn (l1.length : Int) a0) ≤ (l1.length : Int) then ((api_Item_19.f (l1.take ((mn (l1.length : Int) a0) : Int).toNat)).bind fun t319 => (some t319)) else (none)) else (none)) else (none)) = some r := H
  have A3 := Aside0.mk A30
  clear A30
  by_cases c4 : t314 = true
  · subst c4
    have H1 : (if 0 ≤ (mn (l1.length : Int) a0) then (if (mn (l1.length : Int) a0) ≤ (l1.length : Int) then ((api_Item_19.f (l1.take ((mn (l1.length : Int) a0) : Int).toNat)).bind fun t319 => (some t319)) else (none)) else (none)) = some r := by rw [if_pos rfl] at H; exact H
    clear H
    have H := H1
    clear H1
    obtain ⟨ji5, hji5⟩ : ∃ j_ : Int, (mn (l1.length : Int) a0) = j_ := ⟨_, rfl⟩
    replace H : (if 0 ≤ (ji5) then (if (ji5) ≤ (l1.length : Int) then ((api_Item_19.f (l1.take ((ji5) : Int).toNat)).bind fun t319 => (some t319)) else (none)) else (none)) = some r := by first | (rw [hji5] at H; exact H) | (simp only [hji5] at H ⊢; exact H)
    (try rw [hji5] at A3)
    have hji5_ : (if a0 < (l1.length : Int) then a0 else (l1.length : Int)) = ji5 := hji5
    by_cases c6 : 0 ≤ (ji5)
    · rw [if_pos c6] at H
      have c6b0 := eq_true c6
      have c6b1 : decide (0 ≤ (ji5)) = true := decide_eq_true c6
      clear c6
      by_cases c7 : (ji5) ≤ (l1.length : Int)
      · rw [if_pos c7] at H
        have c7b0 := eq_true c7
        have c7b1 : decide ((ji5) ≤ (l1.length : Int)) = true := decide_eq_true c7
        clear c7
        obtain ⟨y315, hy315⟩ : ∃ y_ : List (S25), y_ = (l1.take ((ji5) : Int).toNat) := ⟨_, rfl⟩
        replace H : ((api_Item_19.f y315).bind fun t319 => (some t319)) = some r := by first | (rw [hy315]; with_reducible exact H) | (have H2_ := (Option.bind_some _ _).symm.trans H; rw [hy315]; with_reducible exact H2_) | (have H2_ := (Option.bind_some _ _).symm.trans H; with_reducible exact H2_) | with_reducible exact H | (rw [hy315]; exact H) | exact H
        have Ny315 := Aside0.mk hy315
        clear hy315
        replace H := Option.bind_eq_some_iff.mp H
        obtain ⟨t319, A80, H⟩ := H
        replace H : (some t319) = some r := H
        have A8 := Aside0.mk A80
        clear A80
        obtain rfl := Option.some.inj H
        go_enter Tryd.func10, Tryd.ntmps10
        go_wp2_with (first | ((with_reducible refine gate_callee (f := 5) rfl ?_); refine goesL_ (some 7) rfl rfl Tryd.func5 (by kernel_rfl) rfl #[.int .i64 a0, .slice A1 l1.length c1] rfl (by (try simp only [List.map_toArray, List.map_cons, List.map_nil]); first | done | rfl | (simp only [List.length_drop, List.length_take]; rfl)) ?_; (with_reducible refine (keep_Right.calls k a0 _ _ l1 true _ ?side1 ?side2 A3.out).mono ?_); (case side1 => repeat (first | exact HR1.out | (with_reducible refine Kd.C_alloc ?_ _) | (with_reducible refine Kd.C_drewN ?_ _) | (with_reducible refine Kd.C_drew ?_))); (case side2 => exact HC1.out); rintro e w9 ⟨rfl, hb⟩; refine ⟨_, rfl, ?_⟩; have n0_ := Aside0.mk (below_step (by repeat (first | (with_reducible first | exact HB.out | apply below_alloc | apply pw_below_drewN | apply below_drew1) | exact HB.out)) hb); clear HB; have HB := n0_; clear n0_; (try clear hb); (try clear hb2); (try clear hk); (try clear hi); have q10 : ((ji5) : Int) ≤ ((l1.length : Int) : Int) := of_decide_eq_true (by first | (with_reducible assumption) | assumption); obtain ⟨i010, hi010, _, hsz10, _⟩ := info_parts info25; have hroom10 : l1.length ≤ c1 := HC1.out; have hC10 : Kd.C k25 _ A1 l1.length l1 := HR1.out; have hcut10 := cut_to (P := Tryd.prog) 22 25 .i64 Tryd.underlying22 hi010 A1 l1.length c1 (ji5) (of_decide_eq_true (by first | (with_reducible assumption) | assumption)) q10 hroom10; have hr10 := Kd.C_take (m := ((ji5) : Int).toNat) hC10 (by omega); have hy10 : y315.length = ((ji5) : Int).toNat := (by rw [Ny315.out, List.length_take]; omega); rw [← Ny315.out] at hr10; rw [← hy10] at hcut10; have HR318 := Aside0.mk hr10; have HC318 := Aside0.mk (show y315.length ≤ c1 from by omega); clear hr10 hC10 hroom10 hi010 hsz10; have KY10 := Aside0.mk hy10; clear hy10; replace q10 := eq_true q10) | ((with_reducible refine gate_callee (f := 19) rfl ?_); refine goesL_ (some 15) rfl rfl Tryd.func19 (by kernel_rfl) rfl #[.slice A1 y315.length c1] rfl (by (try simp only [List.map_toArray, List.map_cons, List.map_nil]); first | done | rfl | (simp only [List.length_drop, List.length_take]; rfl)) ?_; (with_reducible refine (api_Item_19.calls _ _ y315 t319 _ ?side1 ?side2 A8.out).mono ?_); (case side1 => repeat (first | exact (Kd.C_below HR318.out HB.out) | (with_reducible refine Kd.C_alloc ?_ _) | (with_reducible refine Kd.C_drewN ?_ _) | (with_reducible refine Kd.C_drew ?_))); (case side2 => exact HC318.out); rintro e w11 ⟨v320, rfl, ho0, hb⟩; refine ⟨_, rfl, ?_⟩; have n0_ := Aside0.mk (Kd.R_lower ho0 (below_size (by repeat (first | (with_reducible first | exact HB.out | apply below_alloc | apply pw_below_drewN | apply below_drew1) | exact HB.out)))); have n1_ := Aside0.mk (below_step (by repeat (first | (with_reducible first | exact HB.out | apply below_alloc | apply pw_below_drewN | apply below_drew1) | exact HB.out)) hb); clear HB; have HO321 := n0_; have HB := n1_; clear n0_ n1_; (try clear hb); (try clear hb2); (try clear hk); (try clear hi); (try clear ho0)))
        go_ret
        exact ⟨_, by first | rfl | (simp [errW_none, errW_some] <;> rfl) | (simp only [← hji5]; first | rfl | (simp [errW_none, errW_some] <;> rfl)) | (simp [*, errW_none, errW_some] <;> rfl), by (with_reducible repeat (first | apply Kd.R_alloc | apply Kd.R_drewN | apply Kd.R_drew)); exact HO321.out, by repeat (first | (with_reducible first | exact HB.out | apply below_alloc | apply pw_below_drewN | apply below_drew1) | exact HB.out)⟩
      · rw [if_neg c7] at H
        exact absurd H (by simp)
    · rw [if_neg c6] at H
      exact absurd H (by simp)
  · replace c4 := Bool.eq_false_iff.mpr c4
    subst c4
    have H1 : (none) = some r := by rw [if_neg (show ¬ (false = true) by decide)] at H; exact H
    clear H
    have H := H1
    clear H1
    exact absurd H (by simp)

-- NOT PRINTED: function 31 (api_Item_31)

/-! ### api_Item_33: function 33 -/
section
open Go.Lib Go.Proofs.YthjiiifnlhbffaaDoor.KR
theorem k25_flat : Flat k25 := ⟨fun {w w' base ok x cs} h => by
  obtain rfl := k25_open h
  exact k25_mkM w' base ok x⟩
theorem zero25 (w : World) : (zeroValue 25).run Tryd.prog w = .ok (.agg #[.string ⟨#[]⟩, .int .u64 0, .int .u64 0]) w := by kernel_rfl
/-- The cells of the element type's zero. -/
def zc25 : List Value := [.string ⟨#[]⟩, .int .u64 0, .int .u64 0]

set_option maxHeartbeats 4000000 in
set_option maxRecDepth 1000000 in
/-- One element is taken out, in place. -/
theorem api_Item_33.walk (g cap i n : Nat) (cur : Array Value) (w : World) (hb : w.heap[g]? = some (.cells cur 25 (0, 0))) (hcap : n ≤ cap) (hm : cap ≤ 9223372036854775807) (hi : i < n) (hsz : cur.size = cap * 3) (h1 : ∀ v ∈ cur.toList.take (n * 3), v.oneCell' = true) :
    Calls Tryd.prog 33 #[.slice (some ⟨g, 0, none⟩) n cap, .int .i64 i, .int .i64 ((i : Int) + 1)] w fun e w' => e = .returned (.slice (some ⟨g, 0, none⟩) (n - 1) cap) ∧
      w' = (w.drew.setCells g (i * 3) ((cur.toList.take (n * 3)).drop ((i + 1) * 3))).setCells g ((n - 1) * 3) zc25 := by
  obtain ⟨i0, hi0, hz0, hz1, hz2⟩ := info_parts info25
  obtain ⟨news, hnews⟩ : ∃ news, news = (cur.toList.take (n * 3)).drop ((i + 1) * 3) := ⟨_, rfl⟩
  have hcl : (cur.toList.take (n * 3)).length = n * 3 := by rw [List.length_take, Array.length_toList, hsz]; omega
  have hlen : news.length = (n - (i + 1)) * 3 := by rw [hnews, List.length_drop, hcl]; omega
  have hget : ∀ t u, news[t]? = some u → w.drew.cell? ⟨g, (i + 1) * 3 + t, none⟩ = some u := by
    intro t u hu
    rw [hnews, List.getElem?_drop] at hu
    have hlt := (List.getElem?_eq_some_iff.1 hu).1
    rw [hcl] at hlt
    rw [List.getElem?_take_of_lt hlt] at hu
    exact blk_get (w := w.drew) hb _ _ hu
  obtain ⟨A, hA, hsrc⟩ : ∃ A : Addr, (if cap = i + 1 then (some (⟨g, 0, none⟩ : Addr)) else some ⟨g, (i + 1) * 3, none⟩) = some A ∧ Hid (∀ t u, news[t]? = some u → w.drew.cell? (A.add t) = some u) := by
    by_cases h : cap = i + 1
    · refine ⟨⟨g, 0, none⟩, by simp [h], fun t u hu => ?_⟩
      have h0 : news.length = 0 := by rw [hlen]; omega
      rw [List.length_eq_zero_iff.1 h0] at hu
      simp at hu
    · exact ⟨⟨g, (i + 1) * 3, none⟩, by simp [h], fun t u hu => by rw [Addr.add_lit]; exact hget t u hu⟩
  have s1 : Hid (news.length = (n - (i + 1)) * 3) := hlen
  have s2 : Hid (∀ u ∈ news, u.oneCell' = true) := fun u hu => h1 u (by rw [hnews] at hu; exact List.mem_of_mem_drop hu)
  have s3 : Hid (∀ t, t < news.length → (w.drew.cell? ⟨g, 0 + i * 3 + t, none⟩).isSome = true ∧ w.drew.frozen? ⟨g, 0 + i * 3 + t, none⟩ = false) := by
    intro t ht
    rw [hlen] at ht
    exact ⟨blk_some (w := w.drew) hb _ (by omega), blk_frozen (w := w.drew) hb _⟩
  obtain ⟨W1, hW1⟩ : ∃ W1, W1 = w.drew.setCells g (0 + i * 3) news := ⟨_, rfl⟩
  obtain ⟨cur1, hb1, hsz1⟩ : ∃ cur1 : Array Value, W1.heap[g]? = some (.cells cur1 25 (0, 0)) ∧ cur1.size = cap * 3 := by
    refine ⟨_, by rw [hW1]; exact setCells_at g 25 news (0 + i * 3) w.drew cur hb (by rw [hlen, hsz]; omega), ?_⟩
    simp [hlen, hsz]; omega
  have hcl : ∀ ty, (Builtin.clear_ #[22] ty #[.slice (some ⟨g, (i + (n - (i + 1))) * 3, none⟩) (n - (i + (n - (i + 1)))) (cap - (i + (n - (i + 1))))]).run Tryd.prog W1 = .ok (.tuple #[]) (W1.setCells g ((n - 1) * 3) zc25) := fun ty => by
    rw [show i + (n - (i + 1)) = n - 1 from by omega, show n - (n - 1) = 1 from by omega]
    exact run_clear_one W1 22 25 ty _ Tryd.underlying22 zero25 g _ _ (fun t ht => blk_some hb1 _ (by have ht : t < 3 := ht; omega)) (fun t ht => blk_frozen hb1 _) (by decide)
  have hW : Hid (W1 = w.drew.setCells g (0 + i * 3) news) := hW1
  have hic : i ≤ cap := by omega
  have hjc : i + 1 ≤ cap := by omega
  have hwr : IntKind.i64.wrap ((i : Int) + 1) = (i : Int) + 1 := by rw [IntKind.wrap_i64]; omega
  have hne : ¬ ((i : Int) = (i : Int) + 1) := by omega
  have hq0 : (0 : Int) ≤ (i : Int) + 1 := by omega
  have hq1 : (i : Int) + 1 ≤ (n : Int) := by omega
  rw [← hnews]
  clear hW1 hb1 hsz1 hget hnews hlen hb hsz h1
  go_enter Tryd.func33, Tryd.ntmps33
  go_wp2_with fail
  go_region_law (refine step_append_room rfl (.tmp 22) (.tmp 25) 22 rfl 25 i0 3 Tryd.underlying22 hi0 hz1 g 0 i cap (by simp [Act.eval, Act.put]) A (n - (i + 1)) (cap - (i + 1)) news (by simp [Act.eval, Act.put]) s1.out hsrc.out s2.out (by omega) s3.out ?_; rw [← hW.out])
  go_wp2
  go_ret
  exact ⟨by rw [show i + (n - (i + 1)) = n - 1 from by omega]; rfl, by rw [hW.out, Nat.zero_add]⟩
theorem api_Item_33.row (a b c z : List Value) (m : Nat) (h : (a ++ b).length = m) : (((a ++ b ++ c).take m) ++ z ++ (a ++ b ++ c).drop (m + z.length)).take m = a ++ b := by
  rw [List.take_append_of_le_length (l₁ := a ++ b) (by omega), List.take_of_length_le (l := a ++ b) (by omega), List.append_assoc, List.take_append_of_le_length (by omega), List.take_of_length_le (by omega)]
def api_Item_33.f (l0 : List S25) (a1 a2 : Int) : Option (List S25) := if 0 ≤ a1 then (if a2 = a1 + 1 then (if a2 ≤ (l0.length : Int) then (some (l0.take a1.toNat ++ l0.drop (a1.toNat + 1))) else none) else none) else none
theorem api_Item_33.calls (P0_ : Nat → Prop) (u9000_ : Value) (l0 : List S25) (a1 a2 : Int) (r : List S25) (w0 w : World) (hB : Below w0.heap.size w0 w) (ho0 : Kd.R k25 25 w w0.heap.size P0_ u9000_ l0) (h : api_Item_33.f l0 a1 a2 = some r) :
    Calls Tryd.prog 33 #[u9000_, .int .i64 a1, .int .i64 a2] w fun e w' => ∃ v0_ : Value, e = .returned (v0_) ∧ Kd.R k25 25 w' w0.heap.size (fun k_ => (P0_ k_ ∨ w.heap.size ≤ k_)) v0_ r ∧ Below w0.heap.size w0 w' ∧ Kept w w' (fun k_ => P0_ k_) := by
  unfold api_Item_33.f at h
  by_cases h0 : 0 ≤ a1
  · rw [if_pos h0] at h
    by_cases h1 : a2 = a1 + 1
    · rw [if_pos h1] at h
      by_cases h2 : a2 ≤ (l0.length : Int)
      · rw [if_pos h2] at h
        obtain rfl := Option.some.inj h
        subst h1
        obtain ⟨i, rfl⟩ := Int.eq_ofNat_of_zero_le h0
        rw [Int.toNat_natCast]
        have hi : i < l0.length := by omega
        obtain ⟨g, cap, cur, rfl, hok, hbase, hb, hn, hm, hsz, hr⟩ := R_open ho0 (by rintro rfl; simp at hi)
        have hsz : cur.size = cap * 3 := hsz
        have hcl : cur.toList.length = cap * 3 := (Array.length_toList).trans hsz
        have hr : Reps (k25.K w) 3 l0 (cur.toList.take (l0.length * 3)) := hr
        have hone := Kd.reps_one hr (by decide) (fun p c hp => k25.K_one hp)
        unfold maxLen at hm
        refine (api_Item_33.walk g cap i l0.length cur w hb hn hm hi hsz hone).mono fun e w' ⟨he, hw⟩ => ?_
        subst he hw
        obtain ⟨L, hL⟩ : ∃ L, L = cur.toList.take (l0.length * 3) := ⟨_, rfl⟩
        have hLl : L.length = l0.length * 3 := by rw [hL, List.length_take, hcl]; omega
        rw [← hL] at hr ⊢
        have hdl : (L.drop ((i + 1) * 3)).length = (l0.length - (i + 1)) * 3 := by rw [List.length_drop, hLl]; omega
        have hb1 := setCells_at g 25 (L.drop ((i + 1) * 3)) (i * 3) w.drew cur hb (by rw [hdl, hsz]; omega)
        have hb2 := setCells_at g 25 zc25 ((l0.length - 1) * 3) _ _ hb1 (by simp [hdl, hsz, zc25]; omega)
        have hxl : (l0.take i ++ l0.drop (i + 1)).length = l0.length - 1 := by rw [List.length_append, List.length_take, List.length_drop]; omega
        refine ⟨_, rfl, ?_, setCells_below (setCells_below (below_drew1 hB) hbase _ _) hbase _ _, setCells_kept (setCells_kept (Kept.refl w _).drew (.inl hok) _ _) (.inl hok) _ _⟩
        rw [← hxl]
        refine R_block k25_flat (w0 := w) (.inl hok) hbase (by rw [hxl]; exact hb2) (by rw [hxl]; omega) (by unfold maxLen; omega) ?_ ?_
        · simp [hdl, hsz, zc25]; omega
        · have e1 : cur.toList.take (i * 3) = L.take (i * 3) := by rw [hL, List.take_take, Nat.min_eq_left (by omega)]
          have e2 : (cur.toList.take (i * 3)).length = i * 3 := by rw [List.length_take, hcl]; omega
          have e3 : (cur.toList.take (i * 3) ++ L.drop ((i + 1) * 3)).length = (l0.length - 1) * 3 := by rw [List.length_append, e2, hdl]; omega
          rw [hxl]
          simp only [List.toList_toArray, show k25.sz = 3 from rfl]
          rw [api_Item_33.row _ _ _ _ _ e3, e1]
          exact reps_app (reps_take hr i) (reps_drop hr (i + 1))
      · rw [if_neg h2] at h; cases h
    · rw [if_neg h1] at h; cases h
  · rw [if_neg h0] at h; cases h
end

-- NOT PRINTED: function 34 (api_Item_34)

-- NOT PRINTED: function 49 (api_Item_49)

-- NOT PRINTED: function 66 (api_Item_66)

-- NOT PRINTED: function 61 (api_Item_61)

-- NOT PRINTED: function 50 (api_Item_50)

end Go.Proofs.YthjiiifnlhbffaaDoor.GKeepThreshold
