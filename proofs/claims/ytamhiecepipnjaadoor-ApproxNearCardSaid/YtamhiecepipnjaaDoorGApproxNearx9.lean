-- Written by gprint (wip/gprint), this session's program over the kit's print. Not trusted: Lean checks it.
import Derived.Test.YtamhiecepipnjaaDoorGApproxNearx0
import Derived.Test.YtamhiecepipnjaaDoorGApproxNearx1
import Derived.Test.YtamhiecepipnjaaDoorGApproxNearx5
import Derived.Test.YtamhiecepipnjaaDoorGApproxNearx7
import Derived.Test.YtamhiecepipnjaaDoorGApproxNearx8
namespace Go.Proofs.YtamhiecepipnjaaDoor.GApproxNear
open Go.RowKit Go.Proofs.YtamhiecepipnjaaDoorW.PrintWords Go.Proofs.YtamhiecepipnjaaDoorW.PrintLast Go.Proofs.YtamhiecepipnjaaDoorW.PrintMore
attribute [local go_sem] max2_int min2_int max_two min_two max_three min_three max_four min_four   -- for this text's walks alone
set_option linter.unusedVariables false
set_option linter.unusedSimpArgs false

/-! ### approx_Error: function 12 -/
def approx_Error.f (k : Nat) (l0_0 : List Int) (l0_1 : List Int) : Option (List Int × List Int × Int) := (approx_Float.f k l0_0 l0_1).bind fun bt527 => (if bt527.2 = 0 then ((approx_Exact.f k bt527.1).bind fun bt529 => (if bt529.2.2 = 0 then ((rat_Cmp.f k l0_0 l0_1 bt529.1 bt529.2.1).bind fun bt537 => (if bt537.2 = 0 then (if bt537.1 = 0 then ((rat_Whole.f k 0).bind fun bt539 => (some (bt539.1, bt539.2, 0))) else (if bt537.1 < 0 then ((rat_Sub.f k bt529.1 bt529.2.1 l0_0 l0_1).bind fun bt545 => (some (bt545.1, bt545.2.1, bt545.2.2))) else ((rat_Sub.f k l0_0 l0_1 bt529.1 bt529.2.1).bind fun bt552 => (some (bt552.1, bt552.2.1, bt552.2.2))))) else (some (([] : List Int), ([] : List Int), bt537.2)))) else (some (([] : List Int), ([] : List Int), bt529.2.2)))) else (some (([] : List Int), ([] : List Int), bt527.2)))
theorem approx_Error.mono : ∀ a0 a1 k, LeO (approx_Error.f k a0 a1) (approx_Error.f (k + 1) a0 a1) := by
 intro a0 a1 k
 unfold approx_Error.f
 repeat' first
   | (with_reducible exact approx_Exact.mono _ _)
   | (with_reducible exact approx_Float.mono _ _ _)
   | (with_reducible exact rat_Cmp.mono _ _ _ _ _)
   | (with_reducible exact rat_Sub.mono _ _ _ _ _)
   | (with_reducible exact rat_Whole.mono _ _)
   | (with_reducible exact LeO.refl _)
   | (with_reducible exact LeO.none _)
   | (with_reducible refine LeO.ite ?_ ?_)
   | (with_reducible refine LeO.bind ?_ (fun _ => ?_))
   | exact approx_Exact.mono _ _
   | exact approx_Float.mono _ _ _
   | exact rat_Cmp.mono _ _ _ _ _
   | exact rat_Sub.mono _ _ _ _ _
   | exact rat_Whole.mono _ _
   | exact LeO.none _
   | refine LeO.ite ?_ ?_
   | refine LeO.bind ?_ (fun _ => ?_)
set_option maxHeartbeats 8000000 in
set_option maxRecDepth 100000 in
theorem approx_Error.calls (k : Nat) (A0_0 : Option Addr) (c0_0 : Nat) (l0_0 : List Int) (A0_1 : Option Addr) (c0_1 : Nat) (l0_1 : List Int) (r1 : List Int) (r2 : List Int) (r3 : Int) (w : World) (hr0_0 : Kd.C (Kd.int .u32) w A0_0 l0_0.length l0_0) (hc0_0 : l0_0.length ≤ c0_0) (hr0_1 : Kd.C (Kd.int .u32) w A0_1 l0_1.length l0_1) (hc0_1 : l0_1.length ≤ c0_1) (h : approx_Error.f k l0_0 l0_1 = some (r1, r2, r3)) :
  Calls Tryd.prog 12 #[.agg #[.slice A0_0 l0_0.length c0_0, .slice A0_1 l0_1.length c0_1]] w fun e w' => ∃ v0_ v1_ : Value, e = .returned (.tuple #[.agg #[v0_, v1_], .int .i64 r3]) ∧ Kd.R (Kd.int .u32) 47 w' w.heap.size (fun k_ => some k_ ≠ (v1_ : Value).ownBlock) v0_ r1 ∧ Kd.R (Kd.int .u32) 47 w' w.heap.size (fun k_ => some k_ ≠ (v0_ : Value).ownBlock) v1_ r2 ∧ Below w.heap.size w w' := by
 have hu25 := Tryd.underlying25
 have HR0_0 := Aside0.mk hr0_0
 have HC0_0 := Aside0.mk hc0_0
 clear hr0_0 hc0_0
 have HR0_1 := Aside0.mk hr0_1
 have HC0_1 := Aside0.mk hc0_1
 clear hr0_1 hc0_1
 have HB := Aside0.mk (Below.refl w.heap.size w)
 have H : ((approx_Float.f k l0_0 l0_1).bind fun bt527 => (if bt527.2 = 0 then ((approx_Exact.f k bt527.1).bind fun bt529 => (if bt529.2.2 = 0 then ((rat_Cmp.f k l0_0 l0_1 bt529.1 bt529.2.1).bind fun bt537 => (if bt537.2 = 0 then (if bt537.1 = 0 then ((rat_Whole.f k 0).bind fun bt539 => (some (bt539.1, bt539.2, 0))) else (if bt537.1 < 0 then ((rat_Sub.f k bt529.1 bt529.2.1 l0_0 l0_1).bind fun bt545 => (some (bt545.1, bt545.2.1, bt545.2.2))) else ((rat_Sub.f k l0_0 l0_1 bt529.1 bt529.2.1).bind fun bt552 => (some (bt552.1, bt552.2.1, bt552.2.2))))) else (some (([] : List Int), ([] : List Int), bt537.2)))) else (some (([] : List Int), ([] : List Int), bt529.2.2)))) else (some (([] : List Int), ([] : List Int), bt527.2)))) = some (r1, r2, r3) := h
 clear h
 obtain ⟨⟨t527, t528⟩, A20, H⟩ := Option.bind_eq_some_iff.mp H
 try dsimp only at H
 have A2 := Aside0.mk A20
 clear A20
 by_cases c3 : t528 = 0
 ·rw [if_pos c3] at H
  have c3b0 : (t528 == 0) = true := beq_iff_eq.mpr c3
  have c3b1 : (t528 != 0) = false := bne_eq_false_iff_eq.mpr c3
  clear c3
  obtain ⟨⟨t529, t532, t535⟩, A40, H⟩ := Option.bind_eq_some_iff.mp H
  try dsimp only at H
  have A4 := Aside0.mk A40
  clear A40
  by_cases c5 : t535 = 0
  ·rw [if_pos c5] at H
   have c5b0 : (t535 == 0) = true := beq_iff_eq.mpr c5
   have c5b1 : (t535 != 0) = false := bne_eq_false_iff_eq.mpr c5
   clear c5
   obtain ⟨⟨t537, t538⟩, A60, H⟩ := Option.bind_eq_some_iff.mp H
   try dsimp only at H
   have A6 := Aside0.mk A60
   clear A60
   by_cases c7 : t538 = 0
   ·rw [if_pos c7] at H
    have c7b0 : (t538 == 0) = true := beq_iff_eq.mpr c7
    have c7b1 : (t538 != 0) = false := bne_eq_false_iff_eq.mpr c7
    clear c7
    by_cases c8 : t537 = 0
    ·rw [if_pos c8] at H
     have c8b0 : (t537 == 0) = true := beq_iff_eq.mpr c8
     have c8b1 : (t537 != 0) = false := bne_eq_false_iff_eq.mpr c8
     clear c8
     obtain ⟨⟨t539, t542⟩, A90, H⟩ := Option.bind_eq_some_iff.mp H
     try dsimp only at H
     have A9 := Aside0.mk A90
     clear A90
     simp only [Option.some.injEq, Prod.mk.injEq] at H
     obtain ⟨rfl, rfl, rfl⟩ := H
     go_enter Tryd.func12, Tryd.ntmps12
     go_wp2_with (first | ((with_reducible refine gate_dst (N := 1) rfl ?_); refine box_event ?hg (N := 1) ?hd (cs := #[.slice A0_0 l0_0.length c0_0, .slice A0_1 l0_1.length c0_1]) (t := 25) ?hr ?_; (case hd => rfl); (case hg => rfl); (case hr => first | (go_simp; done) | (go_simp; rfl)); intro gb525 hg w10 hbox hb; have n0_ := Aside0.mk (below_step qB hb); have n1_ := Aside0.mk (hbox); have n2_ := Aside0.mk ((qZ hg : w.heap.size ≤ gb525)); have n3_ := Aside0.mk ((qZ hg : w.heap.size ≤ gb525)); clear HB; have HB := n0_; have BK525 := n1_; have GW525 := n2_; have GE525 := n3_; clear n0_ n1_ n2_ n3_; clear hb hbox hg) | ((with_reducible refine gate_dst (N := 2) rfl ?_); refine box_event ?hg (N := 2) ?hd (cs := #[.slice none 0 0, .slice none 0 0]) (t := 25) ?hr ?_; (case hd => rfl); (case hg => rfl); (case hr => first | (go_simp; done) | (go_simp; rfl)); intro gb526 hg w11 hbox hb; have n0_ := Aside0.mk (blk_below (g := gb525) (o := .cells #[.slice A0_0 l0_0.length c0_0, .slice A0_1 l0_1.length c0_1] 25 (0, 0)) (qK BK525.out) hb); have n1_ := Aside0.mk (below_step (qG GE525.out) hb); have n2_ := Aside0.mk (hbox); have n3_ := Aside0.mk ((by rw [hg]; exact (below_size (qG GE525.out)) : w.heap.size ≤ gb526)); have n4_ := Aside0.mk ((by rw [hg]; exact (below_size (qG GE525.out)) : w.heap.size ≤ gb526)); have n5_ := Aside0.mk ((by rw [hg]; exact Nat.ne_of_lt (blk_lt (g := gb525) (o := .cells #[.slice A0_0 l0_0.length c0_0, .slice A0_1 l0_1.length c0_1] 25 (0, 0)) (qK BK525.out)) : gb525 ≠ gb526)); have n6_ := Aside0.mk ((by rw [hg]; exact Nat.ne_of_gt (blk_lt (g := gb525) (o := .cells #[.slice A0_0 l0_0.length c0_0, .slice A0_1 l0_1.length c0_1] 25 (0, 0)) (qK BK525.out)) : gb526 ≠ gb525)); clear BK525; clear HB; have BK525 := n0_; have HB := n1_; have BK526 := n2_; have GW526 := n3_; have GE526 := n4_; have NB525_526 := n5_; have NB526_525 := n6_; clear n0_ n1_ n2_ n3_ n4_ n5_ n6_; clear hb hbox hg; have hnb12 := NB525_526.out; have hnc12 := NB526_525.out; have hcz13_0 : w11.cell? ⟨gb525, 0, none⟩ = some (.slice A0_0 l0_0.length c0_0) := (blk_cell BK525.out 0).trans rfl; have hcz13_1 : w11.cell? ⟨gb525, 1, none⟩ = some (.slice A0_1 l0_1.length c0_1) := (blk_cell BK525.out 1).trans rfl; have hfz13_0 := blk_frozen BK525.out 0; have hfz13_1 := blk_frozen BK525.out 1) | ((with_reducible refine gate_callee (f := 10) rfl ?_); refine goesL_ (some 10) rfl rfl Tryd.func10 (by kernel_rfl) rfl #[.agg #[.slice A0_0 l0_0.length c0_0, .slice A0_1 l0_1.length c0_1]] rfl qL ?_; (with_reducible refine (approx_Float.calls k _ _ l0_0 _ _ l0_1 t527 t528 _ ?side1 ?side2 ?side3 ?side4 A2.out).mono ?_); (case side1 => exact qC (Kd.C_below HR0_0.out HB.out)); (case side2 => exact HC0_0.out); (case side3 => exact qC (Kd.C_below HR0_1.out HB.out)); (case side4 => exact HC0_1.out); rintro e w14 ⟨rfl, hb⟩; refine ⟨_, rfl, ?_⟩; have n0_ := Aside0.mk (blk_below (g := gb525) (o := .cells #[.slice A0_0 l0_0.length c0_0, .slice A0_1 l0_1.length c0_1] 25 (0, 0)) (qK BK525.out) hb); have n1_ := Aside0.mk (blk_below (g := gb526) (o := .cells #[.slice none 0 0, .slice none 0 0] 25 (0, 0)) (qK BK526.out) hb); have n2_ := Aside0.mk (below_step (by repeat (first | (with_reducible first | exact HB.out | apply below_alloc | apply pw_below_drewN | apply below_drew1 | refine below_set ?_ GE525.out | refine below_set ?_ GE526.out) | exact HB.out)) hb); clear BK525; clear BK526; clear HB; have BK525 := n0_; have BK526 := n1_; have HB := n2_; clear n0_ n1_ n2_; (try clear hb); (try clear hb2); (try clear hk); (try clear hi)) | ((with_reducible refine gate_callee (f := 11) rfl ?_); refine goesL_ (some 19) rfl rfl Tryd.func11 (by kernel_rfl) rfl #[.float .f64 t527] rfl qL ?_; (with_reducible refine (approx_Exact.calls k t527 t529 t532 t535 _ A4.out).mono ?_); rintro e w15 ⟨v530, v533, rfl, ho0, ho1, hb⟩; refine ⟨_, rfl, ?_⟩; have n0_ := Aside0.mk (Kd.R_lower ho0 (below_size (by repeat (first | (with_reducible first | exact HB.out | apply below_alloc | apply pw_below_drewN | apply below_drew1 | refine below_set ?_ GE525.out | refine below_set ?_ GE526.out) | exact HB.out)))); have n1_ := Aside0.mk (Kd.R_lower ho1 (below_size (by repeat (first | (with_reducible first | exact HB.out | apply below_alloc | apply pw_below_drewN | apply below_drew1 | refine below_set ?_ GE525.out | refine below_set ?_ GE526.out) | exact HB.out)))); have n2_ := Aside0.mk (blk_below (g := gb525) (o := .cells #[.slice A0_0 l0_0.length c0_0, .slice A0_1 l0_1.length c0_1] 25 (0, 0)) (qK BK525.out) hb); have n3_ := Aside0.mk (blk_below (g := gb526) (o := .cells #[.slice none 0 0, .slice none 0 0] 25 (0, 0)) (qK BK526.out) hb); have n4_ := Aside0.mk (below_step (by repeat (first | (with_reducible first | exact HB.out | apply below_alloc | apply pw_below_drewN | apply below_drew1 | refine below_set ?_ GE525.out | refine below_set ?_ GE526.out) | exact HB.out)) hb); clear BK525; clear BK526; clear HB; have HO531 := n0_; have HO534 := n1_; have BK525 := n2_; have BK526 := n3_; have HB := n4_; clear n0_ n1_ n2_ n3_ n4_; (try clear hb); (try clear hb2); (try clear hk); (try clear hi); (try clear ho0); (try clear ho1)) | ((with_reducible refine gate_dst (N := 6) rfl ?_); refine box_event ?hg (N := 6) ?hd (cs := #[.slice none 0 0, .slice none 0 0]) (t := 25) ?hr ?_; (case hd => rfl); (case hg => rfl); (case hr => first | (go_simp; done) | (go_simp; rfl)); intro gb536 hg w16 hbox hb; have n0_ := Aside0.mk (Kd.R_below (qR HO531.out) hb); have n1_ := Aside0.mk (Kd.R_below (qR HO534.out) hb); have n2_ := Aside0.mk (blk_below (g := gb525) (o := .cells #[.slice A0_0 l0_0.length c0_0, .slice A0_1 l0_1.length c0_1] 25 (0, 0)) (qK BK525.out) hb); have n3_ := Aside0.mk (blk_below (g := gb526) (o := .cells #[.slice none 0 0, .slice none 0 0] 25 (0, 0)) (qK BK526.out) hb); have n4_ := Aside0.mk (below_step (by repeat (first | (with_reducible first | exact HB.out | apply below_alloc | apply pw_below_drewN | apply below_drew1 | refine below_set ?_ GE525.out | refine below_set ?_ GE526.out) | exact HB.out)) hb); have n5_ := Aside0.mk (hbox); have n6_ := Aside0.mk ((by rw [hg]; exact (below_size (by repeat (first | (with_reducible first | exact HB.out | apply below_alloc | apply pw_below_drewN | apply below_drew1 | refine below_set ?_ GE525.out | refine below_set ?_ GE526.out) | exact HB.out))) : w.heap.size ≤ gb536)); have n7_ := Aside0.mk ((by rw [hg]; exact (below_size (by repeat (first | (with_reducible first | exact HB.out | apply below_alloc | apply pw_below_drewN | apply below_drew1 | refine below_set ?_ GE525.out | refine below_set ?_ GE526.out) | exact HB.out))) : w.heap.size ≤ gb536)); have n8_ := Aside0.mk ((by rw [hg]; exact Nat.ne_of_lt (blk_lt (g := gb525) (o := .cells #[.slice A0_0 l0_0.length c0_0, .slice A0_1 l0_1.length c0_1] 25 (0, 0)) (qK BK525.out)) : gb525 ≠ gb536)); have n9_ := Aside0.mk ((by rw [hg]; exact Nat.ne_of_gt (blk_lt (g := gb525) (o := .cells #[.slice A0_0 l0_0.length c0_0, .slice A0_1 l0_1.length c0_1] 25 (0, 0)) (qK BK525.out)) : gb536 ≠ gb525)); have n10_ := Aside0.mk ((by rw [hg]; exact Nat.ne_of_lt (blk_lt (g := gb526) (o := .cells #[.slice none 0 0, .slice none 0 0] 25 (0, 0)) (qK BK526.out)) : gb526 ≠ gb536)); have n11_ := Aside0.mk ((by rw [hg]; exact Nat.ne_of_gt (blk_lt (g := gb526) (o := .cells #[.slice none 0 0, .slice none 0 0] 25 (0, 0)) (qK BK526.out)) : gb536 ≠ gb526)); clear HO531; clear HO534; clear BK525; clear BK526; clear HB; have HO531 := n0_; have HO534 := n1_; have BK525 := n2_; have BK526 := n3_; have HB := n4_; have BK536 := n5_; have GW536 := n6_; have GE536 := n7_; have NB525_536 := n8_; have NB536_525 := n9_; have NB526_536 := n10_; have NB536_526 := n11_; clear n0_ n1_ n2_ n3_ n4_ n5_ n6_ n7_ n8_ n9_ n10_ n11_; clear hb hbox hg; obtain ⟨Ao17, co17, eo17⟩ := Kd.R_slice HO531.out; subst eo17; have hnb18 := NB536_525.out; have hnc18 := NB525_536.out; have hnb19 := NB536_526.out; have hnc19 := NB526_536.out; have hcz20_0 : w16.cell? ⟨gb536, 0, none⟩ = some (.slice none 0 0) := (blk_cell BK536.out 0).trans rfl; have hcz20_1 : w16.cell? ⟨gb536, 1, none⟩ = some (.slice none 0 0) := (blk_cell BK536.out 1).trans rfl; have hfz20_0 := blk_frozen BK536.out 0; have hfz20_1 := blk_frozen BK536.out 1; obtain ⟨Ao21, co21, eo21⟩ := Kd.R_slice HO534.out; subst eo21; have hcz22_0 : w16.cell? ⟨gb525, 0, none⟩ = some (.slice A0_0 l0_0.length c0_0) := (blk_cell BK525.out 0).trans rfl; have hcz22_1 : w16.cell? ⟨gb525, 1, none⟩ = some (.slice A0_1 l0_1.length c0_1) := (blk_cell BK525.out 1).trans rfl; have hfz22_0 := blk_frozen BK525.out 0; have hfz22_1 := blk_frozen BK525.out 1) | ((with_reducible refine gate_callee (f := 14) rfl ?_); refine goesL_ (some 29) rfl rfl Tryd.func14 (by kernel_rfl) rfl #[.agg #[.slice A0_0 l0_0.length c0_0, .slice A0_1 l0_1.length c0_1], .agg #[.slice Ao17 t529.length co17, .slice Ao21 t532.length co21]] rfl qL ?_; (with_reducible refine (rat_Cmp.calls k _ _ l0_0 _ _ l0_1 _ _ t529 _ _ t532 t537 t538 _ ?side1 ?side2 ?side3 ?side4 ?side5 ?side6 ?side7 ?side8 A6.out).mono ?_); (case side1 => exact Kd.C_below HR0_0.out (by repeat (first | (with_reducible first | exact HB.out | apply below_alloc | apply pw_below_drewN | apply below_drew1 | refine below_set ?_ GE525.out | refine below_set ?_ GE526.out | refine below_set ?_ GE536.out) | exact HB.out))); (case side2 => exact HC0_0.out); (case side3 => exact Kd.C_below HR0_1.out (by repeat (first | (with_reducible first | exact HB.out | apply below_alloc | apply pw_below_drewN | apply below_drew1 | refine below_set ?_ GE525.out | refine below_set ?_ GE526.out | refine below_set ?_ GE536.out) | exact HB.out))); (case side4 => exact HC0_1.out); (case side5 => refine (Kd.R_reads' (e := 47) (base := w.heap.size) (ok := fun k_ => some k_ ≠ (.slice Ao21 t532.length co21 : Value).ownBlock) (n := t529.length) (c := co17) ?_).2.2; exact (by (with_reducible repeat (first | apply Kd.R_alloc | apply Kd.R_drewN | apply Kd.R_drew)); exact (Kd.R_mono (Kd.R_far (p := ⟨gb536, 1, none⟩) (Kd.R_far (p := ⟨gb536, 0, none⟩) (Kd.R_types HO531.out BK536.out (by decide)) (fun _ hk => hk.2) (.slice Ao17 t529.length co17)) (fun _ hk => hk.2) (.slice Ao21 t532.length co21)) (fun _ h_ => h_.1)))); (case side6 => exact (Kd.R_reads' HO531.out).2.1); (case side7 => refine (Kd.R_reads' (e := 47) (base := w.heap.size) (ok := fun k_ => some k_ ≠ (.slice Ao17 t529.length co17 : Value).ownBlock) (n := t532.length) (c := co21) ?_).2.2; exact (by (with_reducible repeat (first | apply Kd.R_alloc | apply Kd.R_drewN | apply Kd.R_drew)); exact (Kd.R_mono (Kd.R_far (p := ⟨gb536, 1, none⟩) (Kd.R_far (p := ⟨gb536, 0, none⟩) (Kd.R_types HO534.out BK536.out (by decide)) (fun _ hk => hk.2) (.slice Ao17 t529.length co17)) (fun _ hk => hk.2) (.slice Ao21 t532.length co21)) (fun _ h_ => h_.1)))); (case side8 => exact (Kd.R_reads' HO534.out).2.1); rintro e w23 ⟨rfl, hb⟩; refine ⟨_, rfl, ?_⟩; have n0_ := Aside0.mk (Kd.R_below (by (with_reducible repeat (first | apply Kd.R_alloc | apply Kd.R_drewN | apply Kd.R_drew)); exact (Kd.R_mono (Kd.R_far (p := ⟨gb536, 1, none⟩) (Kd.R_far (p := ⟨gb536, 0, none⟩) (Kd.R_types HO531.out BK536.out (by decide)) (fun _ hk => hk.2) (.slice Ao17 t529.length co17)) (fun _ hk => hk.2) (.slice Ao21 t532.length co21)) (fun _ h_ => h_.1))) hb); have n1_ := Aside0.mk (Kd.R_below (by (with_reducible repeat (first | apply Kd.R_alloc | apply Kd.R_drewN | apply Kd.R_drew)); exact (Kd.R_mono (Kd.R_far (p := ⟨gb536, 1, none⟩) (Kd.R_far (p := ⟨gb536, 0, none⟩) (Kd.R_types HO534.out BK536.out (by decide)) (fun _ hk => hk.2) (.slice Ao17 t529.length co17)) (fun _ hk => hk.2) (.slice Ao21 t532.length co21)) (fun _ h_ => h_.1))) hb); have n2_ := Aside0.mk (blk_below (g := gb525) (o := .cells #[.slice A0_0 l0_0.length c0_0, .slice A0_1 l0_1.length c0_1] 25 (0, 0)) (by (with_reducible repeat (first | refine blk_drewN ?_ _ | refine blk_drew ?_ | refine blk_alloc ?_ _)); refine blk_far ?_ NB525_536.out _; (with_reducible repeat (first | refine blk_drewN ?_ _ | refine blk_drew ?_ | refine blk_alloc ?_ _)); refine blk_far ?_ NB525_536.out _; (with_reducible repeat (first | refine blk_drewN ?_ _ | refine blk_drew ?_ | refine blk_alloc ?_ _)); exact BK525.out) hb); have n3_ := Aside0.mk (blk_below (g := gb526) (o := .cells #[.slice none 0 0, .slice none 0 0] 25 (0, 0)) (by (with_reducible repeat (first | refine blk_drewN ?_ _ | refine blk_drew ?_ | refine blk_alloc ?_ _)); refine blk_far ?_ NB526_536.out _; (with_reducible repeat (first | refine blk_drewN ?_ _ | refine blk_drew ?_ | refine blk_alloc ?_ _)); refine blk_far ?_ NB526_536.out _; (with_reducible repeat (first | refine blk_drewN ?_ _ | refine blk_drew ?_ | refine blk_alloc ?_ _)); exact BK526.out) hb); have n4_ := Aside0.mk (blk_below (g := gb536) (o := .cells #[.slice Ao17 t529.length co17, .slice Ao21 t532.length co21] 25 (0, 0)) (by (with_reducible repeat (first | refine blk_drewN ?_ _ | refine blk_drew ?_ | refine blk_alloc ?_ _)); refine blk_put (cs := #[.slice Ao17 t529.length co17, .slice none 0 0]) ?_ 1 _ rfl; (with_reducible repeat (first | refine blk_drewN ?_ _ | refine blk_drew ?_ | refine blk_alloc ?_ _)); refine blk_put (cs := #[.slice none 0 0, .slice none 0 0]) ?_ 0 _ rfl; (with_reducible repeat (first | refine blk_drewN ?_ _ | refine blk_drew ?_ | refine blk_alloc ?_ _)); exact BK536.out) hb); have n5_ := Aside0.mk (below_step (by repeat (first | (with_reducible first | exact HB.out | apply below_alloc | apply pw_below_drewN | apply below_drew1 | refine below_set ?_ GE525.out | refine below_set ?_ GE526.out | refine below_set ?_ GE536.out) | exact HB.out)) hb); clear HO531; clear HO534; clear BK525; clear BK526; clear BK536; clear HB; have HO531 := n0_; have HO534 := n1_; have BK525 := n2_; have BK526 := n3_; have BK536 := n4_; have HB := n5_; clear n0_ n1_ n2_ n3_ n4_ n5_; (try clear hb); (try clear hb2); (try clear hk); (try clear hi)) | ((with_reducible refine gate_callee (f := 32) rfl ?_); refine goesL_ (some 40) rfl rfl Tryd.func32 (by kernel_rfl) rfl #[.int .u64 0] rfl qL ?_; (with_reducible refine (rat_Whole.calls k 0 t539 t542 _ A9.out).mono ?_); rintro e w24 ⟨v540, v543, rfl, ho0, ho1, hb⟩; refine ⟨_, rfl, ?_⟩; have n0_ := Aside0.mk (Kd.R_mono (Kd.R_told (Kd.R_told (Kd.R_old (qR HO531.out) hb) (Kd.R_base ho0)) (Kd.R_base ho1)) (fun _ h_ => h_.1)); have n1_ := Aside0.mk (Kd.R_mono (Kd.R_told (Kd.R_told (Kd.R_old (qR HO534.out) hb) (Kd.R_base ho0)) (Kd.R_base ho1)) (fun _ h_ => h_.1)); have n2_ := Aside0.mk (Kd.R_lower (Kd.R_new' (Kd.R_new' ho0 (Kd.R_lt (qR HO531.out))) (Kd.R_lt (qR HO534.out))) (below_size (by repeat (first | (with_reducible first | exact HB.out | apply below_alloc | apply pw_below_drewN | apply below_drew1 | refine below_set ?_ GE525.out | refine below_set ?_ GE526.out | refine below_set ?_ GE536.out) | exact HB.out)))); have n3_ := Aside0.mk (Kd.R_lower (Kd.R_new' (Kd.R_new' ho1 (Kd.R_lt (qR HO531.out))) (Kd.R_lt (qR HO534.out))) (below_size (by repeat (first | (with_reducible first | exact HB.out | apply below_alloc | apply pw_below_drewN | apply below_drew1 | refine below_set ?_ GE525.out | refine below_set ?_ GE526.out | refine below_set ?_ GE536.out) | exact HB.out)))); have n4_ := Aside0.mk (blk_below (g := gb525) (o := .cells #[.slice A0_0 l0_0.length c0_0, .slice A0_1 l0_1.length c0_1] 25 (0, 0)) (qK BK525.out) hb); have n5_ := Aside0.mk (blk_below (g := gb526) (o := .cells #[.slice none 0 0, .slice none 0 0] 25 (0, 0)) (qK BK526.out) hb); have n6_ := Aside0.mk (blk_below (g := gb536) (o := .cells #[.slice Ao17 t529.length co17, .slice Ao21 t532.length co21] 25 (0, 0)) (qK BK536.out) hb); have n7_ := Aside0.mk (below_step (by repeat (first | (with_reducible first | exact HB.out | apply below_alloc | apply pw_below_drewN | apply below_drew1 | refine below_set ?_ GE525.out | refine below_set ?_ GE526.out | refine below_set ?_ GE536.out) | exact HB.out)) hb); clear HO531; clear HO534; clear BK525; clear BK526; clear BK536; clear HB; have HO531 := n0_; have HO534 := n1_; have HO541 := n2_; have HO544 := n3_; have BK525 := n4_; have BK526 := n5_; have BK536 := n6_; have HB := n7_; clear n0_ n1_ n2_ n3_ n4_ n5_ n6_ n7_; (try clear hb); (try clear hb2); (try clear hk); (try clear hi); (try clear ho0); (try clear ho1); obtain ⟨Ao25, co25, eo25⟩ := Kd.R_slice HO541.out; subst eo25; have hcz26_0 : w24.cell? ⟨gb526, 0, none⟩ = some (.slice none 0 0) := (blk_cell BK526.out 0).trans rfl; have hcz26_1 : w24.cell? ⟨gb526, 1, none⟩ = some (.slice none 0 0) := (blk_cell BK526.out 1).trans rfl; have hfz26_0 := blk_frozen BK526.out 0; have hfz26_1 := blk_frozen BK526.out 1; obtain ⟨Ao27, co27, eo27⟩ := Kd.R_slice HO544.out; subst eo27))
     refine bodyPost_ret (results_ct rfl _ _ gb526 25 #[.slice Ao25 t539.length co25, .slice Ao27 t542.length co27] (0, 0) _ rfl (by (with_reducible repeat (first | refine blk_drewN ?_ _ | refine blk_drew ?_ | refine blk_alloc ?_ _)); refine blk_put (cs := #[.slice Ao25 t539.length co25, .slice none 0 0]) ?_ 1 _ rfl; (with_reducible repeat (first | refine blk_drewN ?_ _ | refine blk_drew ?_ | refine blk_alloc ?_ _)); refine blk_put (cs := #[.slice none 0 0, .slice none 0 0]) ?_ 0 _ rfl; (with_reducible repeat (first | refine blk_drewN ?_ _ | refine blk_drew ?_ | refine blk_alloc ?_ _)); exact BK526.out) Tryd.underlying25 rfl (by kernel_rfl)) rfl ?_
     exact ⟨_, _, by first | rfl | (simp [errW_none, errW_some] <;> rfl) | (simp [*, errW_none, errW_some] <;> rfl), by (with_reducible repeat (first | apply Kd.R_alloc | apply Kd.R_drewN | apply Kd.R_drew)); exact Kd.R_mono (Kd.R_far (p := ⟨gb526, 1, none⟩) (Kd.R_far (p := ⟨gb526, 0, none⟩) (Kd.R_types HO541.out BK526.out (by decide)) (fun _ hk => hk.2) (.slice Ao25 t539.length co25)) (fun _ hk => hk.2) (.slice Ao27 t542.length co27)) (fun _ hk => hk.1.1.1), by (with_reducible repeat (first | apply Kd.R_alloc | apply Kd.R_drewN | apply Kd.R_drew)); exact Kd.R_mono (Kd.R_far (p := ⟨gb526, 1, none⟩) (Kd.R_far (p := ⟨gb526, 0, none⟩) (Kd.R_types HO544.out BK526.out (by decide)) (fun _ hk => hk.2) (.slice Ao25 t539.length co25)) (fun _ hk => hk.2) (.slice Ao27 t542.length co27)) (fun _ hk => hk.1.1.1), by repeat (first | (with_reducible first | exact HB.out | apply below_alloc | apply pw_below_drewN | apply below_drew1 | refine below_set ?_ GE525.out | refine below_set ?_ GE526.out | refine below_set ?_ GE536.out) | exact HB.out)⟩
    ·rw [if_neg c8] at H
     have c8b0 : (t537 == 0) = false := beq_eq_false_iff_ne.mpr c8
     have c8b1 : (t537 != 0) = true := bne_iff_ne.mpr c8
     by_cases c28 : t537 < 0
     ·rw [if_pos c28] at H
      have c28b0 : decide (t537 < 0) = true := decide_eq_true c28
      clear c28
      obtain ⟨⟨t545, t548, t551⟩, A290, H⟩ := Option.bind_eq_some_iff.mp H
      try dsimp only at H
      have A29 := Aside0.mk A290
      clear A290
      simp only [Option.some.injEq, Prod.mk.injEq] at H
      obtain ⟨rfl, rfl, rfl⟩ := H
      go_enter Tryd.func12, Tryd.ntmps12
      go_wp2_with (first | ((with_reducible refine gate_dst (N := 1) rfl ?_); refine box_event ?hg (N := 1) ?hd (cs := #[.slice A0_0 l0_0.length c0_0, .slice A0_1 l0_1.length c0_1]) (t := 25) ?hr ?_; (case hd => rfl); (case hg => rfl); (case hr => first | (go_simp; done) | (go_simp; rfl)); intro gb525 hg w30 hbox hb; have n0_ := Aside0.mk (below_step qB hb); have n1_ := Aside0.mk (hbox); have n2_ := Aside0.mk ((qZ hg : w.heap.size ≤ gb525)); have n3_ := Aside0.mk ((qZ hg : w.heap.size ≤ gb525)); clear HB; have HB := n0_; have BK525 := n1_; have GW525 := n2_; have GE525 := n3_; clear n0_ n1_ n2_ n3_; clear hb hbox hg) | ((with_reducible refine gate_dst (N := 2) rfl ?_); refine box_event ?hg (N := 2) ?hd (cs := #[.slice none 0 0, .slice none 0 0]) (t := 25) ?hr ?_; (case hd => rfl); (case hg => rfl); (case hr => first | (go_simp; done) | (go_simp; rfl)); intro gb526 hg w31 hbox hb; have n0_ := Aside0.mk (blk_below (g := gb525) (o := .cells #[.slice A0_0 l0_0.length c0_0, .slice A0_1 l0_1.length c0_1] 25 (0, 0)) (qK BK525.out) hb); have n1_ := Aside0.mk (below_step (qG GE525.out) hb); have n2_ := Aside0.mk (hbox); have n3_ := Aside0.mk ((by rw [hg]; exact (below_size (qG GE525.out)) : w.heap.size ≤ gb526)); have n4_ := Aside0.mk ((by rw [hg]; exact (below_size (qG GE525.out)) : w.heap.size ≤ gb526)); have n5_ := Aside0.mk ((by rw [hg]; exact Nat.ne_of_lt (blk_lt (g := gb525) (o := .cells #[.slice A0_0 l0_0.length c0_0, .slice A0_1 l0_1.length c0_1] 25 (0, 0)) (qK BK525.out)) : gb525 ≠ gb526)); have n6_ := Aside0.mk ((by rw [hg]; exact Nat.ne_of_gt (blk_lt (g := gb525) (o := .cells #[.slice A0_0 l0_0.length c0_0, .slice A0_1 l0_1.length c0_1] 25 (0, 0)) (qK BK525.out)) : gb526 ≠ gb525)); clear BK525; clear HB; have BK525 := n0_; have HB := n1_; have BK526 := n2_; have GW526 := n3_; have GE526 := n4_; have NB525_526 := n5_; have NB526_525 := n6_; clear n0_ n1_ n2_ n3_ n4_ n5_ n6_; clear hb hbox hg; have hnb32 := NB525_526.out; have hnc32 := NB526_525.out; have hcz33_0 : w31.cell? ⟨gb525, 0, none⟩ = some (.slice A0_0 l0_0.length c0_0) := (blk_cell BK525.out 0).trans rfl; have hcz33_1 : w31.cell? ⟨gb525, 1, none⟩ = some (.slice A0_1 l0_1.length c0_1) := (blk_cell BK525.out 1).trans rfl; have hfz33_0 := blk_frozen BK525.out 0; have hfz33_1 := blk_frozen BK525.out 1) | ((with_reducible refine gate_callee (f := 10) rfl ?_); refine goesL_ (some 10) rfl rfl Tryd.func10 (by kernel_rfl) rfl #[.agg #[.slice A0_0 l0_0.length c0_0, .slice A0_1 l0_1.length c0_1]] rfl qL ?_; (with_reducible refine (approx_Float.calls k _ _ l0_0 _ _ l0_1 t527 t528 _ ?side1 ?side2 ?side3 ?side4 A2.out).mono ?_); (case side1 => exact qC (Kd.C_below HR0_0.out HB.out)); (case side2 => exact HC0_0.out); (case side3 => exact qC (Kd.C_below HR0_1.out HB.out)); (case side4 => exact HC0_1.out); rintro e w34 ⟨rfl, hb⟩; refine ⟨_, rfl, ?_⟩; have n0_ := Aside0.mk (blk_below (g := gb525) (o := .cells #[.slice A0_0 l0_0.length c0_0, .slice A0_1 l0_1.length c0_1] 25 (0, 0)) (qK BK525.out) hb); have n1_ := Aside0.mk (blk_below (g := gb526) (o := .cells #[.slice none 0 0, .slice none 0 0] 25 (0, 0)) (qK BK526.out) hb); have n2_ := Aside0.mk (below_step (by repeat (first | (with_reducible first | exact HB.out | apply below_alloc | apply pw_below_drewN | apply below_drew1 | refine below_set ?_ GE525.out | refine below_set ?_ GE526.out) | exact HB.out)) hb); clear BK525; clear BK526; clear HB; have BK525 := n0_; have BK526 := n1_; have HB := n2_; clear n0_ n1_ n2_; (try clear hb); (try clear hb2); (try clear hk); (try clear hi)) | ((with_reducible refine gate_callee (f := 11) rfl ?_); refine goesL_ (some 19) rfl rfl Tryd.func11 (by kernel_rfl) rfl #[.float .f64 t527] rfl qL ?_; (with_reducible refine (approx_Exact.calls k t527 t529 t532 t535 _ A4.out).mono ?_); rintro e w35 ⟨v530, v533, rfl, ho0, ho1, hb⟩; refine ⟨_, rfl, ?_⟩; have n0_ := Aside0.mk (Kd.R_lower ho0 (below_size (by repeat (first | (with_reducible first | exact HB.out | apply below_alloc | apply pw_below_drewN | apply below_drew1 | refine below_set ?_ GE525.out | refine below_set ?_ GE526.out) | exact HB.out)))); have n1_ := Aside0.mk (Kd.R_lower ho1 (below_size (by repeat (first | (with_reducible first | exact HB.out | apply below_alloc | apply pw_below_drewN | apply below_drew1 | refine below_set ?_ GE525.out | refine below_set ?_ GE526.out) | exact HB.out)))); have n2_ := Aside0.mk (blk_below (g := gb525) (o := .cells #[.slice A0_0 l0_0.length c0_0, .slice A0_1 l0_1.length c0_1] 25 (0, 0)) (qK BK525.out) hb); have n3_ := Aside0.mk (blk_below (g := gb526) (o := .cells #[.slice none 0 0, .slice none 0 0] 25 (0, 0)) (qK BK526.out) hb); have n4_ := Aside0.mk (below_step (by repeat (first | (with_reducible first | exact HB.out | apply below_alloc | apply pw_below_drewN | apply below_drew1 | refine below_set ?_ GE525.out | refine below_set ?_ GE526.out) | exact HB.out)) hb); clear BK525; clear BK526; clear HB; have HO531 := n0_; have HO534 := n1_; have BK525 := n2_; have BK526 := n3_; have HB := n4_; clear n0_ n1_ n2_ n3_ n4_; (try clear hb); (try clear hb2); (try clear hk); (try clear hi); (try clear ho0); (try clear ho1)) | ((with_reducible refine gate_dst (N := 6) rfl ?_); refine box_event ?hg (N := 6) ?hd (cs := #[.slice none 0 0, .slice none 0 0]) (t := 25) ?hr ?_; (case hd => rfl); (case hg => rfl); (case hr => first | (go_simp; done) | (go_simp; rfl)); intro gb536 hg w36 hbox hb; have n0_ := Aside0.mk (Kd.R_below (qR HO531.out) hb); have n1_ := Aside0.mk (Kd.R_below (qR HO534.out) hb); have n2_ := Aside0.mk (blk_below (g := gb525) (o := .cells #[.slice A0_0 l0_0.length c0_0, .slice A0_1 l0_1.length c0_1] 25 (0, 0)) (qK BK525.out) hb); have n3_ := Aside0.mk (blk_below (g := gb526) (o := .cells #[.slice none 0 0, .slice none 0 0] 25 (0, 0)) (qK BK526.out) hb); have n4_ := Aside0.mk (below_step (by repeat (first | (with_reducible first | exact HB.out | apply below_alloc | apply pw_below_drewN | apply below_drew1 | refine below_set ?_ GE525.out | refine below_set ?_ GE526.out) | exact HB.out)) hb); have n5_ := Aside0.mk (hbox); have n6_ := Aside0.mk ((by rw [hg]; exact (below_size (by repeat (first | (with_reducible first | exact HB.out | apply below_alloc | apply pw_below_drewN | apply below_drew1 | refine below_set ?_ GE525.out | refine below_set ?_ GE526.out) | exact HB.out))) : w.heap.size ≤ gb536)); have n7_ := Aside0.mk ((by rw [hg]; exact (below_size (by repeat (first | (with_reducible first | exact HB.out | apply below_alloc | apply pw_below_drewN | apply below_drew1 | refine below_set ?_ GE525.out | refine below_set ?_ GE526.out) | exact HB.out))) : w.heap.size ≤ gb536)); have n8_ := Aside0.mk ((by rw [hg]; exact Nat.ne_of_lt (blk_lt (g := gb525) (o := .cells #[.slice A0_0 l0_0.length c0_0, .slice A0_1 l0_1.length c0_1] 25 (0, 0)) (qK BK525.out)) : gb525 ≠ gb536)); have n9_ := Aside0.mk ((by rw [hg]; exact Nat.ne_of_gt (blk_lt (g := gb525) (o := .cells #[.slice A0_0 l0_0.length c0_0, .slice A0_1 l0_1.length c0_1] 25 (0, 0)) (qK BK525.out)) : gb536 ≠ gb525)); have n10_ := Aside0.mk ((by rw [hg]; exact Nat.ne_of_lt (blk_lt (g := gb526) (o := .cells #[.slice none 0 0, .slice none 0 0] 25 (0, 0)) (qK BK526.out)) : gb526 ≠ gb536)); have n11_ := Aside0.mk ((by rw [hg]; exact Nat.ne_of_gt (blk_lt (g := gb526) (o := .cells #[.slice none 0 0, .slice none 0 0] 25 (0, 0)) (qK BK526.out)) : gb536 ≠ gb526)); clear HO531; clear HO534; clear BK525; clear BK526; clear HB; have HO531 := n0_; have HO534 := n1_; have BK525 := n2_; have BK526 := n3_; have HB := n4_; have BK536 := n5_; have GW536 := n6_; have GE536 := n7_; have NB525_536 := n8_; have NB536_525 := n9_; have NB526_536 := n10_; have NB536_526 := n11_; clear n0_ n1_ n2_ n3_ n4_ n5_ n6_ n7_ n8_ n9_ n10_ n11_; clear hb hbox hg; obtain ⟨Ao37, co37, eo37⟩ := Kd.R_slice HO531.out; subst eo37; have hnb38 := NB536_525.out; have hnc38 := NB525_536.out; have hnb39 := NB536_526.out; have hnc39 := NB526_536.out; have hcz40_0 : w36.cell? ⟨gb536, 0, none⟩ = some (.slice none 0 0) := (blk_cell BK536.out 0).trans rfl; have hcz40_1 : w36.cell? ⟨gb536, 1, none⟩ = some (.slice none 0 0) := (blk_cell BK536.out 1).trans rfl; have hfz40_0 := blk_frozen BK536.out 0; have hfz40_1 := blk_frozen BK536.out 1; obtain ⟨Ao41, co41, eo41⟩ := Kd.R_slice HO534.out; subst eo41; have hcz42_0 : w36.cell? ⟨gb525, 0, none⟩ = some (.slice A0_0 l0_0.length c0_0) := (blk_cell BK525.out 0).trans rfl; have hcz42_1 : w36.cell? ⟨gb525, 1, none⟩ = some (.slice A0_1 l0_1.length c0_1) := (blk_cell BK525.out 1).trans rfl; have hfz42_0 := blk_frozen BK525.out 0; have hfz42_1 := blk_frozen BK525.out 1) | ((with_reducible refine gate_callee (f := 14) rfl ?_); refine goesL_ (some 29) rfl rfl Tryd.func14 (by kernel_rfl) rfl #[.agg #[.slice A0_0 l0_0.length c0_0, .slice A0_1 l0_1.length c0_1], .agg #[.slice Ao37 t529.length co37, .slice Ao41 t532.length co41]] rfl qL ?_; (with_reducible refine (rat_Cmp.calls k _ _ l0_0 _ _ l0_1 _ _ t529 _ _ t532 t537 t538 _ ?side1 ?side2 ?side3 ?side4 ?side5 ?side6 ?side7 ?side8 A6.out).mono ?_); (case side1 => exact Kd.C_below HR0_0.out (by repeat (first | (with_reducible first | exact HB.out | apply below_alloc | apply pw_below_drewN | apply below_drew1 | refine below_set ?_ GE525.out | refine below_set ?_ GE526.out | refine below_set ?_ GE536.out) | exact HB.out))); (case side2 => exact HC0_0.out); (case side3 => exact Kd.C_below HR0_1.out (by repeat (first | (with_reducible first | exact HB.out | apply below_alloc | apply pw_below_drewN | apply below_drew1 | refine below_set ?_ GE525.out | refine below_set ?_ GE526.out | refine below_set ?_ GE536.out) | exact HB.out))); (case side4 => exact HC0_1.out); (case side5 => refine (Kd.R_reads' (e := 47) (base := w.heap.size) (ok := fun k_ => some k_ ≠ (.slice Ao41 t532.length co41 : Value).ownBlock) (n := t529.length) (c := co37) ?_).2.2; exact (by (with_reducible repeat (first | apply Kd.R_alloc | apply Kd.R_drewN | apply Kd.R_drew)); exact (Kd.R_mono (Kd.R_far (p := ⟨gb536, 1, none⟩) (Kd.R_far (p := ⟨gb536, 0, none⟩) (Kd.R_types HO531.out BK536.out (by decide)) (fun _ hk => hk.2) (.slice Ao37 t529.length co37)) (fun _ hk => hk.2) (.slice Ao41 t532.length co41)) (fun _ h_ => h_.1)))); (case side6 => exact (Kd.R_reads' HO531.out).2.1); (case side7 => refine (Kd.R_reads' (e := 47) (base := w.heap.size) (ok := fun k_ => some k_ ≠ (.slice Ao37 t529.length co37 : Value).ownBlock) (n := t532.length) (c := co41) ?_).2.2; exact (by (with_reducible repeat (first | apply Kd.R_alloc | apply Kd.R_drewN | apply Kd.R_drew)); exact (Kd.R_mono (Kd.R_far (p := ⟨gb536, 1, none⟩) (Kd.R_far (p := ⟨gb536, 0, none⟩) (Kd.R_types HO534.out BK536.out (by decide)) (fun _ hk => hk.2) (.slice Ao37 t529.length co37)) (fun _ hk => hk.2) (.slice Ao41 t532.length co41)) (fun _ h_ => h_.1)))); (case side8 => exact (Kd.R_reads' HO534.out).2.1); rintro e w43 ⟨rfl, hb⟩; refine ⟨_, rfl, ?_⟩; have n0_ := Aside0.mk (Kd.R_below (by (with_reducible repeat (first | apply Kd.R_alloc | apply Kd.R_drewN | apply Kd.R_drew)); exact (Kd.R_mono (Kd.R_far (p := ⟨gb536, 1, none⟩) (Kd.R_far (p := ⟨gb536, 0, none⟩) (Kd.R_types HO531.out BK536.out (by decide)) (fun _ hk => hk.2) (.slice Ao37 t529.length co37)) (fun _ hk => hk.2) (.slice Ao41 t532.length co41)) (fun _ h_ => h_.1))) hb); have n1_ := Aside0.mk (Kd.R_below (by (with_reducible repeat (first | apply Kd.R_alloc | apply Kd.R_drewN | apply Kd.R_drew)); exact (Kd.R_mono (Kd.R_far (p := ⟨gb536, 1, none⟩) (Kd.R_far (p := ⟨gb536, 0, none⟩) (Kd.R_types HO534.out BK536.out (by decide)) (fun _ hk => hk.2) (.slice Ao37 t529.length co37)) (fun _ hk => hk.2) (.slice Ao41 t532.length co41)) (fun _ h_ => h_.1))) hb); have n2_ := Aside0.mk (blk_below (g := gb525) (o := .cells #[.slice A0_0 l0_0.length c0_0, .slice A0_1 l0_1.length c0_1] 25 (0, 0)) (by (with_reducible repeat (first | refine blk_drewN ?_ _ | refine blk_drew ?_ | refine blk_alloc ?_ _)); refine blk_far ?_ NB525_536.out _; (with_reducible repeat (first | refine blk_drewN ?_ _ | refine blk_drew ?_ | refine blk_alloc ?_ _)); refine blk_far ?_ NB525_536.out _; (with_reducible repeat (first | refine blk_drewN ?_ _ | refine blk_drew ?_ | refine blk_alloc ?_ _)); exact BK525.out) hb); have n3_ := Aside0.mk (blk_below (g := gb526) (o := .cells #[.slice none 0 0, .slice none 0 0] 25 (0, 0)) (by (with_reducible repeat (first | refine blk_drewN ?_ _ | refine blk_drew ?_ | refine blk_alloc ?_ _)); refine blk_far ?_ NB526_536.out _; (with_reducible repeat (first | refine blk_drewN ?_ _ | refine blk_drew ?_ | refine blk_alloc ?_ _)); refine blk_far ?_ NB526_536.out _; (with_reducible repeat (first | refine blk_drewN ?_ _ | refine blk_drew ?_ | refine blk_alloc ?_ _)); exact BK526.out) hb); have n4_ := Aside0.mk (blk_below (g := gb536) (o := .cells #[.slice Ao37 t529.length co37, .slice Ao41 t532.length co41] 25 (0, 0)) (by (with_reducible repeat (first | refine blk_drewN ?_ _ | refine blk_drew ?_ | refine blk_alloc ?_ _)); refine blk_put (cs := #[.slice Ao37 t529.length co37, .slice none 0 0]) ?_ 1 _ rfl; (with_reducible repeat (first | refine blk_drewN ?_ _ | refine blk_drew ?_ | refine blk_alloc ?_ _)); refine blk_put (cs := #[.slice none 0 0, .slice none 0 0]) ?_ 0 _ rfl; (with_reducible repeat (first | refine blk_drewN ?_ _ | refine blk_drew ?_ | refine blk_alloc ?_ _)); exact BK536.out) hb); have n5_ := Aside0.mk (below_step (by repeat (first | (with_reducible first | exact HB.out | apply below_alloc | apply pw_below_drewN | apply below_drew1 | refine below_set ?_ GE525.out | refine below_set ?_ GE526.out | refine below_set ?_ GE536.out) | exact HB.out)) hb); clear HO531; clear HO534; clear BK525; clear BK526; clear BK536; clear HB; have HO531 := n0_; have HO534 := n1_; have BK525 := n2_; have BK526 := n3_; have BK536 := n4_; have HB := n5_; clear n0_ n1_ n2_ n3_ n4_ n5_; (try clear hb); (try clear hb2); (try clear hk); (try clear hi); have hcz44_0 : w43.cell? ⟨gb536, 0, none⟩ = some (.slice Ao37 t529.length co37) := (blk_cell BK536.out 0).trans rfl; have hcz44_1 : w43.cell? ⟨gb536, 1, none⟩ = some (.slice Ao41 t532.length co41) := (blk_cell BK536.out 1).trans rfl; have hfz44_0 := blk_frozen BK536.out 0; have hfz44_1 := blk_frozen BK536.out 1; have hcz45_0 : w43.cell? ⟨gb525, 0, none⟩ = some (.slice A0_0 l0_0.length c0_0) := (blk_cell BK525.out 0).trans rfl; have hcz45_1 : w43.cell? ⟨gb525, 1, none⟩ = some (.slice A0_1 l0_1.length c0_1) := (blk_cell BK525.out 1).trans rfl; have hfz45_0 := blk_frozen BK525.out 0; have hfz45_1 := blk_frozen BK525.out 1) | ((with_reducible refine gate_callee (f := 17) rfl ?_); refine goesL_ (some 46) rfl rfl Tryd.func17 (by kernel_rfl) rfl #[.agg #[.slice Ao37 t529.length co37, .slice Ao41 t532.length co41], .agg #[.slice A0_0 l0_0.length c0_0, .slice A0_1 l0_1.length c0_1]] rfl qL ?_; (with_reducible refine (rat_Sub.calls k _ _ t529 _ _ t532 _ _ l0_0 _ _ l0_1 t545 t548 t551 _ ?side1 ?side2 ?side3 ?side4 ?side5 ?side6 ?side7 ?side8 A29.out).mono ?_); (case side1 => exact qC (Kd.R_reads' HO531.out).2.2); (case side2 => exact (Kd.R_reads' HO531.out).2.1); (case side3 => exact qC (Kd.R_reads' HO534.out).2.2); (case side4 => exact (Kd.R_reads' HO534.out).2.1); (case side5 => exact qC (Kd.C_below HR0_0.out HB.out)); (case side6 => exact HC0_0.out); (case side7 => exact qC (Kd.C_below HR0_1.out HB.out)); (case side8 => exact HC0_1.out); rintro e w46 ⟨v546, v549, rfl, ho0, ho1, hb⟩; refine ⟨_, rfl, ?_⟩; have n0_ := Aside0.mk (Kd.R_mono (Kd.R_told (Kd.R_told (Kd.R_old (qR HO531.out) hb) (Kd.R_base ho0)) (Kd.R_base ho1)) (fun _ h_ => h_.1)); have n1_ := Aside0.mk (Kd.R_mono (Kd.R_told (Kd.R_told (Kd.R_old (qR HO534.out) hb) (Kd.R_base ho0)) (Kd.R_base ho1)) (fun _ h_ => h_.1)); have n2_ := Aside0.mk (Kd.R_lower (Kd.R_new' (Kd.R_new' ho0 (Kd.R_lt (qR HO531.out))) (Kd.R_lt (qR HO534.out))) (below_size (by repeat (first | (with_reducible first | exact HB.out | apply below_alloc | apply pw_below_drewN | apply below_drew1 | refine below_set ?_ GE525.out | refine below_set ?_ GE526.out | refine below_set ?_ GE536.out) | exact HB.out)))); have n3_ := Aside0.mk (Kd.R_lower (Kd.R_new' (Kd.R_new' ho1 (Kd.R_lt (qR HO531.out))) (Kd.R_lt (qR HO534.out))) (below_size (by repeat (first | (with_reducible first | exact HB.out | apply below_alloc | apply pw_below_drewN | apply below_drew1 | refine below_set ?_ GE525.out | refine below_set ?_ GE526.out | refine below_set ?_ GE536.out) | exact HB.out)))); have n4_ := Aside0.mk (blk_below (g := gb525) (o := .cells #[.slice A0_0 l0_0.length c0_0, .slice A0_1 l0_1.length c0_1] 25 (0, 0)) (qK BK525.out) hb); have n5_ := Aside0.mk (blk_below (g := gb526) (o := .cells #[.slice none 0 0, .slice none 0 0] 25 (0, 0)) (qK BK526.out) hb); have n6_ := Aside0.mk (blk_below (g := gb536) (o := .cells #[.slice Ao37 t529.length co37, .slice Ao41 t532.length co41] 25 (0, 0)) (qK BK536.out) hb); have n7_ := Aside0.mk (below_step (by repeat (first | (with_reducible first | exact HB.out | apply below_alloc | apply pw_below_drewN | apply below_drew1 | refine below_set ?_ GE525.out | refine below_set ?_ GE526.out | refine below_set ?_ GE536.out) | exact HB.out)) hb); clear HO531; clear HO534; clear BK525; clear BK526; clear BK536; clear HB; have HO531 := n0_; have HO534 := n1_; have HO547 := n2_; have HO550 := n3_; have BK525 := n4_; have BK526 := n5_; have BK536 := n6_; have HB := n7_; clear n0_ n1_ n2_ n3_ n4_ n5_ n6_ n7_; (try clear hb); (try clear hb2); (try clear hk); (try clear hi); (try clear ho0); (try clear ho1); obtain ⟨Ao47, co47, eo47⟩ := Kd.R_slice HO547.out; subst eo47; have hcz48_0 : w46.cell? ⟨gb526, 0, none⟩ = some (.slice none 0 0) := (blk_cell BK526.out 0).trans rfl; have hcz48_1 : w46.cell? ⟨gb526, 1, none⟩ = some (.slice none 0 0) := (blk_cell BK526.out 1).trans rfl; have hfz48_0 := blk_frozen BK526.out 0; have hfz48_1 := blk_frozen BK526.out 1; obtain ⟨Ao49, co49, eo49⟩ := Kd.R_slice HO550.out; subst eo49))
      refine bodyPost_ret (results_ct rfl _ _ gb526 25 #[.slice Ao47 t545.length co47, .slice Ao49 t548.length co49] (0, 0) _ rfl (by (with_reducible repeat (first | refine blk_drewN ?_ _ | refine blk_drew ?_ | refine blk_alloc ?_ _)); refine blk_put (cs := #[.slice Ao47 t545.length co47, .slice none 0 0]) ?_ 1 _ rfl; (with_reducible repeat (first | refine blk_drewN ?_ _ | refine blk_drew ?_ | refine blk_alloc ?_ _)); refine blk_put (cs := #[.slice none 0 0, .slice none 0 0]) ?_ 0 _ rfl; (with_reducible repeat (first | refine blk_drewN ?_ _ | refine blk_drew ?_ | refine blk_alloc ?_ _)); exact BK526.out) Tryd.underlying25 rfl (by kernel_rfl)) rfl ?_
      exact ⟨_, _, by first | rfl | (simp [errW_none, errW_some] <;> rfl) | (simp [*, errW_none, errW_some] <;> rfl), by (with_reducible repeat (first | apply Kd.R_alloc | apply Kd.R_drewN | apply Kd.R_drew)); exact Kd.R_mono (Kd.R_far (p := ⟨gb526, 1, none⟩) (Kd.R_far (p := ⟨gb526, 0, none⟩) (Kd.R_types HO547.out BK526.out (by decide)) (fun _ hk => hk.2) (.slice Ao47 t545.length co47)) (fun _ hk => hk.2) (.slice Ao49 t548.length co49)) (fun _ hk => hk.1.1.1), by (with_reducible repeat (first | apply Kd.R_alloc | apply Kd.R_drewN | apply Kd.R_drew)); exact Kd.R_mono (Kd.R_far (p := ⟨gb526, 1, none⟩) (Kd.R_far (p := ⟨gb526, 0, none⟩) (Kd.R_types HO550.out BK526.out (by decide)) (fun _ hk => hk.2) (.slice Ao47 t545.length co47)) (fun _ hk => hk.2) (.slice Ao49 t548.length co49)) (fun _ hk => hk.1.1.1), by repeat (first | (with_reducible first | exact HB.out | apply below_alloc | apply pw_below_drewN | apply below_drew1 | refine below_set ?_ GE525.out | refine below_set ?_ GE526.out | refine below_set ?_ GE536.out) | exact HB.out)⟩
     ·rw [if_neg c28] at H
      have c28b0 : decide (t537 < 0) = false := decide_eq_false c28
      clear c28
      obtain ⟨⟨t552, t555, t558⟩, A500, H⟩ := Option.bind_eq_some_iff.mp H
      try dsimp only at H
      have A50 := Aside0.mk A500
      clear A500
      simp only [Option.some.injEq, Prod.mk.injEq] at H
      obtain ⟨rfl, rfl, rfl⟩ := H
      go_enter Tryd.func12, Tryd.ntmps12
      go_wp2_with (first | ((with_reducible refine gate_dst (N := 1) rfl ?_); refine box_event ?hg (N := 1) ?hd (cs := #[.slice A0_0 l0_0.length c0_0, .slice A0_1 l0_1.length c0_1]) (t := 25) ?hr ?_; (case hd => rfl); (case hg => rfl); (case hr => first | (go_simp; done) | (go_simp; rfl)); intro gb525 hg w51 hbox hb; have n0_ := Aside0.mk (below_step qB hb); have n1_ := Aside0.mk (hbox); have n2_ := Aside0.mk ((qZ hg : w.heap.size ≤ gb525)); have n3_ := Aside0.mk ((qZ hg : w.heap.size ≤ gb525)); clear HB; have HB := n0_; have BK525 := n1_; have GW525 := n2_; have GE525 := n3_; clear n0_ n1_ n2_ n3_; clear hb hbox hg) | ((with_reducible refine gate_dst (N := 2) rfl ?_); refine box_event ?hg (N := 2) ?hd (cs := #[.slice none 0 0, .slice none 0 0]) (t := 25) ?hr ?_; (case hd => rfl); (case hg => rfl); (case hr => first | (go_simp; done) | (go_simp; rfl)); intro gb526 hg w52 hbox hb; have n0_ := Aside0.mk (blk_below (g := gb525) (o := .cells #[.slice A0_0 l0_0.length c0_0, .slice A0_1 l0_1.length c0_1] 25 (0, 0)) (qK BK525.out) hb); have n1_ := Aside0.mk (below_step (qG GE525.out) hb); have n2_ := Aside0.mk (hbox); have n3_ := Aside0.mk ((by rw [hg]; exact (below_size (qG GE525.out)) : w.heap.size ≤ gb526)); have n4_ := Aside0.mk ((by rw [hg]; exact (below_size (qG GE525.out)) : w.heap.size ≤ gb526)); have n5_ := Aside0.mk ((by rw [hg]; exact Nat.ne_of_lt (blk_lt (g := gb525) (o := .cells #[.slice A0_0 l0_0.length c0_0, .slice A0_1 l0_1.length c0_1] 25 (0, 0)) (qK BK525.out)) : gb525 ≠ gb526)); have n6_ := Aside0.mk ((by rw [hg]; exact Nat.ne_of_gt (blk_lt (g := gb525) (o := .cells #[.slice A0_0 l0_0.length c0_0, .slice A0_1 l0_1.length c0_1] 25 (0, 0)) (qK BK525.out)) : gb526 ≠ gb525)); clear BK525; clear HB; have BK525 := n0_; have HB := n1_; have BK526 := n2_; have GW526 := n3_; have GE526 := n4_; have NB525_526 := n5_; have NB526_525 := n6_; clear n0_ n1_ n2_ n3_ n4_ n5_ n6_; clear hb hbox hg; have hnb53 := NB525_526.out; have hnc53 := NB526_525.out; have hcz54_0 : w52.cell? ⟨gb525, 0, none⟩ = some (.slice A0_0 l0_0.length c0_0) := (blk_cell BK525.out 0).trans rfl; have hcz54_1 : w52.cell? ⟨gb525, 1, none⟩ = some (.slice A0_1 l0_1.length c0_1) := (blk_cell BK525.out 1).trans rfl; have hfz54_0 := blk_frozen BK525.out 0; have hfz54_1 := blk_frozen BK525.out 1) | ((with_reducible refine gate_callee (f := 10) rfl ?_); refine goesL_ (some 10) rfl rfl Tryd.func10 (by kernel_rfl) rfl #[.agg #[.slice A0_0 l0_0.length c0_0, .slice A0_1 l0_1.length c0_1]] rfl qL ?_; (with_reducible refine (approx_Float.calls k _ _ l0_0 _ _ l0_1 t527 t528 _ ?side1 ?side2 ?side3 ?side4 A2.out).mono ?_); (case side1 => exact qC (Kd.C_below HR0_0.out HB.out)); (case side2 => exact HC0_0.out); (case side3 => exact qC (Kd.C_below HR0_1.out HB.out)); (case side4 => exact HC0_1.out); rintro e w55 ⟨rfl, hb⟩; refine ⟨_, rfl, ?_⟩; have n0_ := Aside0.mk (blk_below (g := gb525) (o := .cells #[.slice A0_0 l0_0.length c0_0, .slice A0_1 l0_1.length c0_1] 25 (0, 0)) (qK BK525.out) hb); have n1_ := Aside0.mk (blk_below (g := gb526) (o := .cells #[.slice none 0 0, .slice none 0 0] 25 (0, 0)) (qK BK526.out) hb); have n2_ := Aside0.mk (below_step (by repeat (first | (with_reducible first | exact HB.out | apply below_alloc | apply pw_below_drewN | apply below_drew1 | refine below_set ?_ GE525.out | refine below_set ?_ GE526.out) | exact HB.out)) hb); clear BK525; clear BK526; clear HB; have BK525 := n0_; have BK526 := n1_; have HB := n2_; clear n0_ n1_ n2_; (try clear hb); (try clear hb2); (try clear hk); (try clear hi)) | ((with_reducible refine gate_callee (f := 11) rfl ?_); refine goesL_ (some 19) rfl rfl Tryd.func11 (by kernel_rfl) rfl #[.float .f64 t527] rfl qL ?_; (with_reducible refine (approx_Exact.calls k t527 t529 t532 t535 _ A4.out).mono ?_); rintro e w56 ⟨v530, v533, rfl, ho0, ho1, hb⟩; refine ⟨_, rfl, ?_⟩; have n0_ := Aside0.mk (Kd.R_lower ho0 (below_size (by repeat (first | (with_reducible first | exact HB.out | apply below_alloc | apply pw_below_drewN | apply below_drew1 | refine below_set ?_ GE525.out | refine below_set ?_ GE526.out) | exact HB.out)))); have n1_ := Aside0.mk (Kd.R_lower ho1 (below_size (by repeat (first | (with_reducible first | exact HB.out | apply below_alloc | apply pw_below_drewN | apply below_drew1 | refine below_set ?_ GE525.out | refine below_set ?_ GE526.out) | exact HB.out)))); have n2_ := Aside0.mk (blk_below (g := gb525) (o := .cells #[.slice A0_0 l0_0.length c0_0, .slice A0_1 l0_1.length c0_1] 25 (0, 0)) (qK BK525.out) hb); have n3_ := Aside0.mk (blk_below (g := gb526) (o := .cells #[.slice none 0 0, .slice none 0 0] 25 (0, 0)) (qK BK526.out) hb); have n4_ := Aside0.mk (below_step (by repeat (first | (with_reducible first | exact HB.out | apply below_alloc | apply pw_below_drewN | apply below_drew1 | refine below_set ?_ GE525.out | refine below_set ?_ GE526.out) | exact HB.out)) hb); clear BK525; clear BK526; clear HB; have HO531 := n0_; have HO534 := n1_; have BK525 := n2_; have BK526 := n3_; have HB := n4_; clear n0_ n1_ n2_ n3_ n4_; (try clear hb); (try clear hb2); (try clear hk); (try clear hi); (try clear ho0); (try clear ho1)) | ((with_reducible refine gate_dst (N := 6) rfl ?_); refine box_event ?hg (N := 6) ?hd (cs := #[.slice none 0 0, .slice none 0 0]) (t := 25) ?hr ?_; (case hd => rfl); (case hg => rfl); (case hr => first | (go_simp; done) | (go_simp; rfl)); intro gb536 hg w57 hbox hb; have n0_ := Aside0.mk (Kd.R_below (qR HO531.out) hb); have n1_ := Aside0.mk (Kd.R_below (qR HO534.out) hb); have n2_ := Aside0.mk (blk_below (g := gb525) (o := .cells #[.slice A0_0 l0_0.length c0_0, .slice A0_1 l0_1.length c0_1] 25 (0, 0)) (qK BK525.out) hb); have n3_ := Aside0.mk (blk_below (g := gb526) (o := .cells #[.slice none 0 0, .slice none 0 0] 25 (0, 0)) (qK BK526.out) hb); have n4_ := Aside0.mk (below_step (by repeat (first | (with_reducible first | exact HB.out | apply below_alloc | apply pw_below_drewN | apply below_drew1 | refine below_set ?_ GE525.out | refine below_set ?_ GE526.out) | exact HB.out)) hb); have n5_ := Aside0.mk (hbox); have n6_ := Aside0.mk ((by rw [hg]; exact (below_size (by repeat (first | (with_reducible first | exact HB.out | apply below_alloc | apply pw_below_drewN | apply below_drew1 | refine below_set ?_ GE525.out | refine below_set ?_ GE526.out) | exact HB.out))) : w.heap.size ≤ gb536)); have n7_ := Aside0.mk ((by rw [hg]; exact (below_size (by repeat (first | (with_reducible first | exact HB.out | apply below_alloc | apply pw_below_drewN | apply below_drew1 | refine below_set ?_ GE525.out | refine below_set ?_ GE526.out) | exact HB.out))) : w.heap.size ≤ gb536)); have n8_ := Aside0.mk ((by rw [hg]; exact Nat.ne_of_lt (blk_lt (g := gb525) (o := .cells #[.slice A0_0 l0_0.length c0_0, .slice A0_1 l0_1.length c0_1] 25 (0, 0)) (qK BK525.out)) : gb525 ≠ gb536)); have n9_ := Aside0.mk ((by rw [hg]; exact Nat.ne_of_gt (blk_lt (g := gb525) (o := .cells #[.slice A0_0 l0_0.length c0_0, .slice A0_1 l0_1.length c0_1] 25 (0, 0)) (qK BK525.out)) : gb536 ≠ gb525)); have n10_ := Aside0.mk ((by rw [hg]; exact Nat.ne_of_lt (blk_lt (g := gb526) (o := .cells #[.slice none 0 0, .slice none 0 0] 25 (0, 0)) (qK BK526.out)) : gb526 ≠ gb536)); have n11_ := Aside0.mk ((by rw [hg]; exact Nat.ne_of_gt (blk_lt (g := gb526) (o := .cells #[.slice none 0 0, .slice none 0 0] 25 (0, 0)) (qK BK526.out)) : gb536 ≠ gb526)); clear HO531; clear HO534; clear BK525; clear BK526; clear HB; have HO531 := n0_; have HO534 := n1_; have BK525 := n2_; have BK526 := n3_; have HB := n4_; have BK536 := n5_; have GW536 := n6_; have GE536 := n7_; have NB525_536 := n8_; have NB536_525 := n9_; have NB526_536 := n10_; have NB536_526 := n11_; clear n0_ n1_ n2_ n3_ n4_ n5_ n6_ n7_ n8_ n9_ n10_ n11_; clear hb hbox hg; obtain ⟨Ao58, co58, eo58⟩ := Kd.R_slice HO531.out; subst eo58; have hnb59 := NB536_525.out; have hnc59 := NB525_536.out; have hnb60 := NB536_526.out; have hnc60 := NB526_536.out; have hcz61_0 : w57.cell? ⟨gb536, 0, none⟩ = some (.slice none 0 0) := (blk_cell BK536.out 0).trans rfl; have hcz61_1 : w57.cell? ⟨gb536, 1, none⟩ = some (.slice none 0 0) := (blk_cell BK536.out 1).trans rfl; have hfz61_0 := blk_frozen BK536.out 0; have hfz61_1 := blk_frozen BK536.out 1; obtain ⟨Ao62, co62, eo62⟩ := Kd.R_slice HO534.out; subst eo62; have hcz63_0 : w57.cell? ⟨gb525, 0, none⟩ = some (.slice A0_0 l0_0.length c0_0) := (blk_cell BK525.out 0).trans rfl; have hcz63_1 : w57.cell? ⟨gb525, 1, none⟩ = some (.slice A0_1 l0_1.length c0_1) := (blk_cell BK525.out 1).trans rfl; have hfz63_0 := blk_frozen BK525.out 0; have hfz63_1 := blk_frozen BK525.out 1) | ((with_reducible refine gate_callee (f := 14) rfl ?_); refine goesL_ (some 29) rfl rfl Tryd.func14 (by kernel_rfl) rfl #[.agg #[.slice A0_0 l0_0.length c0_0, .slice A0_1 l0_1.length c0_1], .agg #[.slice Ao58 t529.length co58, .slice Ao62 t532.length co62]] rfl qL ?_; (with_reducible refine (rat_Cmp.calls k _ _ l0_0 _ _ l0_1 _ _ t529 _ _ t532 t537 t538 _ ?side1 ?side2 ?side3 ?side4 ?side5 ?side6 ?side7 ?side8 A6.out).mono ?_); (case side1 => exact Kd.C_below HR0_0.out (by repeat (first | (with_reducible first | exact HB.out | apply below_alloc | apply pw_below_drewN | apply below_drew1 | refine below_set ?_ GE525.out | refine below_set ?_ GE526.out | refine below_set ?_ GE536.out) | exact HB.out))); (case side2 => exact HC0_0.out); (case side3 => exact Kd.C_below HR0_1.out (by repeat (first | (with_reducible first | exact HB.out | apply below_alloc | apply pw_below_drewN | apply below_drew1 | refine below_set ?_ GE525.out | refine below_set ?_ GE526.out | refine below_set ?_ GE536.out) | exact HB.out))); (case side4 => exact HC0_1.out); (case side5 => refine (Kd.R_reads' (e := 47) (base := w.heap.size) (ok := fun k_ => some k_ ≠ (.slice Ao62 t532.length co62 : Value).ownBlock) (n := t529.length) (c := co58) ?_).2.2; exact (by (with_reducible repeat (first | apply Kd.R_alloc | apply Kd.R_drewN | apply Kd.R_drew)); exact (Kd.R_mono (Kd.R_far (p := ⟨gb536, 1, none⟩) (Kd.R_far (p := ⟨gb536, 0, none⟩) (Kd.R_types HO531.out BK536.out (by decide)) (fun _ hk => hk.2) (.slice Ao58 t529.length co58)) (fun _ hk => hk.2) (.slice Ao62 t532.length co62)) (fun _ h_ => h_.1)))); (case side6 => exact (Kd.R_reads' HO531.out).2.1); (case side7 => refine (Kd.R_reads' (e := 47) (base := w.heap.size) (ok := fun k_ => some k_ ≠ (.slice Ao58 t529.length co58 : Value).ownBlock) (n := t532.length) (c := co62) ?_).2.2; exact (by (with_reducible repeat (first | apply Kd.R_alloc | apply Kd.R_drewN | apply Kd.R_drew)); exact (Kd.R_mono (Kd.R_far (p := ⟨gb536, 1, none⟩) (Kd.R_far (p := ⟨gb536, 0, none⟩) (Kd.R_types HO534.out BK536.out (by decide)) (fun _ hk => hk.2) (.slice Ao58 t529.length co58)) (fun _ hk => hk.2) (.slice Ao62 t532.length co62)) (fun _ h_ => h_.1)))); (case side8 => exact (Kd.R_reads' HO534.out).2.1); rintro e w64 ⟨rfl, hb⟩; refine ⟨_, rfl, ?_⟩; have n0_ := Aside0.mk (Kd.R_below (by (with_reducible repeat (first | apply Kd.R_alloc | apply Kd.R_drewN | apply Kd.R_drew)); exact (Kd.R_mono (Kd.R_far (p := ⟨gb536, 1, none⟩) (Kd.R_far (p := ⟨gb536, 0, none⟩) (Kd.R_types HO531.out BK536.out (by decide)) (fun _ hk => hk.2) (.slice Ao58 t529.length co58)) (fun _ hk => hk.2) (.slice Ao62 t532.length co62)) (fun _ h_ => h_.1))) hb); have n1_ := Aside0.mk (Kd.R_below (by (with_reducible repeat (first | apply Kd.R_alloc | apply Kd.R_drewN | apply Kd.R_drew)); exact (Kd.R_mono (Kd.R_far (p := ⟨gb536, 1, none⟩) (Kd.R_far (p := ⟨gb536, 0, none⟩) (Kd.R_types HO534.out BK536.out (by decide)) (fun _ hk => hk.2) (.slice Ao58 t529.length co58)) (fun _ hk => hk.2) (.slice Ao62 t532.length co62)) (fun _ h_ => h_.1))) hb); have n2_ := Aside0.mk (blk_below (g := gb525) (o := .cells #[.slice A0_0 l0_0.length c0_0, .slice A0_1 l0_1.length c0_1] 25 (0, 0)) (by (with_reducible repeat (first | refine blk_drewN ?_ _ | refine blk_drew ?_ | refine blk_alloc ?_ _)); refine blk_far ?_ NB525_536.out _; (with_reducible repeat (first | refine blk_drewN ?_ _ | refine blk_drew ?_ | refine blk_alloc ?_ _)); refine blk_far ?_ NB525_536.out _; (with_reducible repeat (first | refine blk_drewN ?_ _ | refine blk_drew ?_ | refine blk_alloc ?_ _)); exact BK525.out) hb); have n3_ := Aside0.mk (blk_below (g := gb526) (o := .cells #[.slice none 0 0, .slice none 0 0] 25 (0, 0)) (by (with_reducible repeat (first | refine blk_drewN ?_ _ | refine blk_drew ?_ | refine blk_alloc ?_ _)); refine blk_far ?_ NB526_536.out _; (with_reducible repeat (first | refine blk_drewN ?_ _ | refine blk_drew ?_ | refine blk_alloc ?_ _)); refine blk_far ?_ NB526_536.out _; (with_reducible repeat (first | refine blk_drewN ?_ _ | refine blk_drew ?_ | refine blk_alloc ?_ _)); exact BK526.out) hb); have n4_ := Aside0.mk (blk_below (g := gb536) (o := .cells #[.slice Ao58 t529.length co58, .slice Ao62 t532.length co62] 25 (0, 0)) (by (with_reducible repeat (first | refine blk_drewN ?_ _ | refine blk_drew ?_ | refine blk_alloc ?_ _)); refine blk_put (cs := #[.slice Ao58 t529.length co58, .slice none 0 0]) ?_ 1 _ rfl; (with_reducible repeat (first | refine blk_drewN ?_ _ | refine blk_drew ?_ | refine blk_alloc ?_ _)); refine blk_put (cs := #[.slice none 0 0, .slice none 0 0]) ?_ 0 _ rfl; (with_reducible repeat (first | refine blk_drewN ?_ _ | refine blk_drew ?_ | refine blk_alloc ?_ _)); exact BK536.out) hb); have n5_ := Aside0.mk (below_step (by repeat (first | (with_reducible first | exact HB.out | apply below_alloc | apply pw_below_drewN | apply below_drew1 | refine below_set ?_ GE525.out | refine below_set ?_ GE526.out | refine below_set ?_ GE536.out) | exact HB.out)) hb); clear HO531; clear HO534; clear BK525; clear BK526; clear BK536; clear HB; have HO531 := n0_; have HO534 := n1_; have BK525 := n2_; have BK526 := n3_; have BK536 := n4_; have HB := n5_; clear n0_ n1_ n2_ n3_ n4_ n5_; (try clear hb); (try clear hb2); (try clear hk); (try clear hi); have hcz65_0 : w64.cell? ⟨gb525, 0, none⟩ = some (.slice A0_0 l0_0.length c0_0) := (blk_cell BK525.out 0).trans rfl; have hcz65_1 : w64.cell? ⟨gb525, 1, none⟩ = some (.slice A0_1 l0_1.length c0_1) := (blk_cell BK525.out 1).trans rfl; have hfz65_0 := blk_frozen BK525.out 0; have hfz65_1 := blk_frozen BK525.out 1; have hcz66_0 : w64.cell? ⟨gb536, 0, none⟩ = some (.slice Ao58 t529.length co58) := (blk_cell BK536.out 0).trans rfl; have hcz66_1 : w64.cell? ⟨gb536, 1, none⟩ = some (.slice Ao62 t532.length co62) := (blk_cell BK536.out 1).trans rfl; have hfz66_0 := blk_frozen BK536.out 0; have hfz66_1 := blk_frozen BK536.out 1) | ((with_reducible refine gate_callee (f := 17) rfl ?_); refine goesL_ (some 51) rfl rfl Tryd.func17 (by kernel_rfl) rfl #[.agg #[.slice A0_0 l0_0.length c0_0, .slice A0_1 l0_1.length c0_1], .agg #[.slice Ao58 t529.length co58, .slice Ao62 t532.length co62]] rfl qL ?_; (with_reducible refine (rat_Sub.calls k _ _ l0_0 _ _ l0_1 _ _ t529 _ _ t532 t552 t555 t558 _ ?side1 ?side2 ?side3 ?side4 ?side5 ?side6 ?side7 ?side8 A50.out).mono ?_); (case side1 => exact qC (Kd.C_below HR0_0.out HB.out)); (case side2 => exact HC0_0.out); (case side3 => exact qC (Kd.C_below HR0_1.out HB.out)); (case side4 => exact HC0_1.out); (case side5 => exact qC (Kd.R_reads' HO531.out).2.2); (case side6 => exact (Kd.R_reads' HO531.out).2.1); (case side7 => exact qC (Kd.R_reads' HO534.out).2.2); (case side8 => exact (Kd.R_reads' HO534.out).2.1); rintro e w67 ⟨v553, v556, rfl, ho0, ho1, hb⟩; refine ⟨_, rfl, ?_⟩; have n0_ := Aside0.mk (Kd.R_mono (Kd.R_told (Kd.R_told (Kd.R_old (qR HO531.out) hb) (Kd.R_base ho0)) (Kd.R_base ho1)) (fun _ h_ => h_.1)); have n1_ := Aside0.mk (Kd.R_mono (Kd.R_told (Kd.R_told (Kd.R_old (qR HO534.out) hb) (Kd.R_base ho0)) (Kd.R_base ho1)) (fun _ h_ => h_.1)); have n2_ := Aside0.mk (Kd.R_lower (Kd.R_new' (Kd.R_new' ho0 (Kd.R_lt (qR HO531.out))) (Kd.R_lt (qR HO534.out))) (below_size (by repeat (first | (with_reducible first | exact HB.out | apply below_alloc | apply pw_below_drewN | apply below_drew1 | refine below_set ?_ GE525.out | refine below_set ?_ GE526.out | refine below_set ?_ GE536.out) | exact HB.out)))); have n3_ := Aside0.mk (Kd.R_lower (Kd.R_new' (Kd.R_new' ho1 (Kd.R_lt (qR HO531.out))) (Kd.R_lt (qR HO534.out))) (below_size (by repeat (first | (with_reducible first | exact HB.out | apply below_alloc | apply pw_below_drewN | apply below_drew1 | refine below_set ?_ GE525.out | refine below_set ?_ GE526.out | refine below_set ?_ GE536.out) | exact HB.out)))); have n4_ := Aside0.mk (blk_below (g := gb525) (o := .cells #[.slice A0_0 l0_0.length c0_0, .slice A0_1 l0_1.length c0_1] 25 (0, 0)) (qK BK525.out) hb); have n5_ := Aside0.mk (blk_below (g := gb526) (o := .cells #[.slice none 0 0, .slice none 0 0] 25 (0, 0)) (qK BK526.out) hb); have n6_ := Aside0.mk (blk_below (g := gb536) (o := .cells #[.slice Ao58 t529.length co58, .slice Ao62 t532.length co62] 25 (0, 0)) (qK BK536.out) hb); have n7_ := Aside0.mk (below_step (by repeat (first | (with_reducible first | exact HB.out | apply below_alloc | apply pw_below_drewN | apply below_drew1 | refine below_set ?_ GE525.out | refine below_set ?_ GE526.out | refine below_set ?_ GE536.out) | exact HB.out)) hb); clear HO531; clear HO534; clear BK525; clear BK526; clear BK536; clear HB; have HO531 := n0_; have HO534 := n1_; have HO554 := n2_; have HO557 := n3_; have BK525 := n4_; have BK526 := n5_; have BK536 := n6_; have HB := n7_; clear n0_ n1_ n2_ n3_ n4_ n5_ n6_ n7_; (try clear hb); (try clear hb2); (try clear hk); (try clear hi); (try clear ho0); (try clear ho1); obtain ⟨Ao68, co68, eo68⟩ := Kd.R_slice HO554.out; subst eo68; have hcz69_0 : w67.cell? ⟨gb526, 0, none⟩ = some (.slice none 0 0) := (blk_cell BK526.out 0).trans rfl; have hcz69_1 : w67.cell? ⟨gb526, 1, none⟩ = some (.slice none 0 0) := (blk_cell BK526.out 1).trans rfl; have hfz69_0 := blk_frozen BK526.out 0; have hfz69_1 := blk_frozen BK526.out 1; obtain ⟨Ao70, co70, eo70⟩ := Kd.R_slice HO557.out; subst eo70))
      refine bodyPost_ret (results_ct rfl _ _ gb526 25 #[.slice Ao68 t552.length co68, .slice Ao70 t555.length co70] (0, 0) _ rfl (by (with_reducible repeat (first | refine blk_drewN ?_ _ | refine blk_drew ?_ | refine blk_alloc ?_ _)); refine blk_put (cs := #[.slice Ao68 t552.length co68, .slice none 0 0]) ?_ 1 _ rfl; (with_reducible repeat (first | refine blk_drewN ?_ _ | refine blk_drew ?_ | refine blk_alloc ?_ _)); refine blk_put (cs := #[.slice none 0 0, .slice none 0 0]) ?_ 0 _ rfl; (with_reducible repeat (first | refine blk_drewN ?_ _ | refine blk_drew ?_ | refine blk_alloc ?_ _)); exact BK526.out) Tryd.underlying25 rfl (by kernel_rfl)) rfl ?_
      exact ⟨_, _, by first | rfl | (simp [errW_none, errW_some] <;> rfl) | (simp [*, errW_none, errW_some] <;> rfl), by (with_reducible repeat (first | apply Kd.R_alloc | apply Kd.R_drewN | apply Kd.R_drew)); exact Kd.R_mono (Kd.R_far (p := ⟨gb526, 1, none⟩) (Kd.R_far (p := ⟨gb526, 0, none⟩) (Kd.R_types HO554.out BK526.out (by decide)) (fun _ hk => hk.2) (.slice Ao68 t552.length co68)) (fun _ hk => hk.2) (.slice Ao70 t555.length co70)) (fun _ hk => hk.1.1.1), by (with_reducible repeat (first | apply Kd.R_alloc | apply Kd.R_drewN | apply Kd.R_drew)); exact Kd.R_mono (Kd.R_far (p := ⟨gb526, 1, none⟩) (Kd.R_far (p := ⟨gb526, 0, none⟩) (Kd.R_types HO557.out BK526.out (by decide)) (fun _ hk => hk.2) (.slice Ao68 t552.length co68)) (fun _ hk => hk.2) (.slice Ao70 t555.length co70)) (fun _ hk => hk.1.1.1), by repeat (first | (with_reducible first | exact HB.out | apply below_alloc | apply pw_below_drewN | apply below_drew1 | refine below_set ?_ GE525.out | refine below_set ?_ GE526.out | refine below_set ?_ GE536.out) | exact HB.out)⟩
   ·rw [if_neg c7] at H
    have c7b0 : (t538 == 0) = false := beq_eq_false_iff_ne.mpr c7
    have c7b1 : (t538 != 0) = true := bne_iff_ne.mpr c7
    simp only [Option.some.injEq, Prod.mk.injEq] at H
    obtain ⟨rfl, rfl, rfl⟩ := H
    go_enter Tryd.func12, Tryd.ntmps12
    go_wp2_with (first | ((with_reducible refine gate_dst (N := 1) rfl ?_); refine box_event ?hg (N := 1) ?hd (cs := #[.slice A0_0 l0_0.length c0_0, .slice A0_1 l0_1.length c0_1]) (t := 25) ?hr ?_; (case hd => rfl); (case hg => rfl); (case hr => first | (go_simp; done) | (go_simp; rfl)); intro gb525 hg w71 hbox hb; have n0_ := Aside0.mk (below_step qB hb); have n1_ := Aside0.mk (hbox); have n2_ := Aside0.mk ((qZ hg : w.heap.size ≤ gb525)); have n3_ := Aside0.mk ((qZ hg : w.heap.size ≤ gb525)); clear HB; have HB := n0_; have BK525 := n1_; have GW525 := n2_; have GE525 := n3_; clear n0_ n1_ n2_ n3_; clear hb hbox hg) | ((with_reducible refine gate_dst (N := 2) rfl ?_); refine box_event ?hg (N := 2) ?hd (cs := #[.slice none 0 0, .slice none 0 0]) (t := 25) ?hr ?_; (case hd => rfl); (case hg => rfl); (case hr => first | (go_simp; done) | (go_simp; rfl)); intro gb526 hg w72 hbox hb; have n0_ := Aside0.mk (blk_below (g := gb525) (o := .cells #[.slice A0_0 l0_0.length c0_0, .slice A0_1 l0_1.length c0_1] 25 (0, 0)) (qK BK525.out) hb); have n1_ := Aside0.mk (below_step (qG GE525.out) hb); have n2_ := Aside0.mk (hbox); have n3_ := Aside0.mk ((by rw [hg]; exact (below_size (qG GE525.out)) : w.heap.size ≤ gb526)); have n4_ := Aside0.mk ((by rw [hg]; exact (below_size (qG GE525.out)) : w.heap.size ≤ gb526)); have n5_ := Aside0.mk ((by rw [hg]; exact Nat.ne_of_lt (blk_lt (g := gb525) (o := .cells #[.slice A0_0 l0_0.length c0_0, .slice A0_1 l0_1.length c0_1] 25 (0, 0)) (qK BK525.out)) : gb525 ≠ gb526)); have n6_ := Aside0.mk ((by rw [hg]; exact Nat.ne_of_gt (blk_lt (g := gb525) (o := .cells #[.slice A0_0 l0_0.length c0_0, .slice A0_1 l0_1.length c0_1] 25 (0, 0)) (qK BK525.out)) : gb526 ≠ gb525)); clear BK525; clear HB; have BK525 := n0_; have HB := n1_; have BK526 := n2_; have GW526 := n3_; have GE526 := n4_; have NB525_526 := n5_; have NB526_525 := n6_; clear n0_ n1_ n2_ n3_ n4_ n5_ n6_; clear hb hbox hg; have hnb73 := NB525_526.out; have hnc73 := NB526_525.out; have hcz74_0 : w72.cell? ⟨gb525, 0, none⟩ = some (.slice A0_0 l0_0.length c0_0) := (blk_cell BK525.out 0).trans rfl; have hcz74_1 : w72.cell? ⟨gb525, 1, none⟩ = some (.slice A0_1 l0_1.length c0_1) := (blk_cell BK525.out 1).trans rfl; have hfz74_0 := blk_frozen BK525.out 0; have hfz74_1 := blk_frozen BK525.out 1) | ((with_reducible refine gate_callee (f := 10) rfl ?_); refine goesL_ (some 10) rfl rfl Tryd.func10 (by kernel_rfl) rfl #[.agg #[.slice A0_0 l0_0.length c0_0, .slice A0_1 l0_1.length c0_1]] rfl qL ?_; (with_reducible refine (approx_Float.calls k _ _ l0_0 _ _ l0_1 t527 t528 _ ?side1 ?side2 ?side3 ?side4 A2.out).mono ?_); (case side1 => exact qC (Kd.C_below HR0_0.out HB.out)); (case side2 => exact HC0_0.out); (case side3 => exact qC (Kd.C_below HR0_1.out HB.out)); (case side4 => exact HC0_1.out); rintro e w75 ⟨rfl, hb⟩; refine ⟨_, rfl, ?_⟩; have n0_ := Aside0.mk (blk_below (g := gb525) (o := .cells #[.slice A0_0 l0_0.length c0_0, .slice A0_1 l0_1.length c0_1] 25 (0, 0)) (qK BK525.out) hb); have n1_ := Aside0.mk (blk_below (g := gb526) (o := .cells #[.slice none 0 0, .slice none 0 0] 25 (0, 0)) (qK BK526.out) hb); have n2_ := Aside0.mk (below_step (by repeat (first | (with_reducible first | exact HB.out | apply below_alloc | apply pw_below_drewN | apply below_drew1 | refine below_set ?_ GE525.out | refine below_set ?_ GE526.out) | exact HB.out)) hb); clear BK525; clear BK526; clear HB; have BK525 := n0_; have BK526 := n1_; have HB := n2_; clear n0_ n1_ n2_; (try clear hb); (try clear hb2); (try clear hk); (try clear hi)) | ((with_reducible refine gate_callee (f := 11) rfl ?_); refine goesL_ (some 19) rfl rfl Tryd.func11 (by kernel_rfl) rfl #[.float .f64 t527] rfl qL ?_; (with_reducible refine (approx_Exact.calls k t527 t529 t532 t535 _ A4.out).mono ?_); rintro e w76 ⟨v530, v533, rfl, ho0, ho1, hb⟩; refine ⟨_, rfl, ?_⟩; have n0_ := Aside0.mk (Kd.R_lower ho0 (below_size (by repeat (first | (with_reducible first | exact HB.out | apply below_alloc | apply pw_below_drewN | apply below_drew1 | refine below_set ?_ GE525.out | refine below_set ?_ GE526.out) | exact HB.out)))); have n1_ := Aside0.mk (Kd.R_lower ho1 (below_size (by repeat (first | (with_reducible first | exact HB.out | apply below_alloc | apply pw_below_drewN | apply below_drew1 | refine below_set ?_ GE525.out | refine below_set ?_ GE526.out) | exact HB.out)))); have n2_ := Aside0.mk (blk_below (g := gb525) (o := .cells #[.slice A0_0 l0_0.length c0_0, .slice A0_1 l0_1.length c0_1] 25 (0, 0)) (qK BK525.out) hb); have n3_ := Aside0.mk (blk_below (g := gb526) (o := .cells #[.slice none 0 0, .slice none 0 0] 25 (0, 0)) (qK BK526.out) hb); have n4_ := Aside0.mk (below_step (by repeat (first | (with_reducible first | exact HB.out | apply below_alloc | apply pw_below_drewN | apply below_drew1 | refine below_set ?_ GE525.out | refine below_set ?_ GE526.out) | exact HB.out)) hb); clear BK525; clear BK526; clear HB; have HO531 := n0_; have HO534 := n1_; have BK525 := n2_; have BK526 := n3_; have HB := n4_; clear n0_ n1_ n2_ n3_ n4_; (try clear hb); (try clear hb2); (try clear hk); (try clear hi); (try clear ho0); (try clear ho1)) | ((with_reducible refine gate_dst (N := 6) rfl ?_); refine box_event ?hg (N := 6) ?hd (cs := #[.slice none 0 0, .slice none 0 0]) (t := 25) ?hr ?_; (case hd => rfl); (case hg => rfl); (case hr => first | (go_simp; done) | (go_simp; rfl)); intro gb536 hg w77 hbox hb; have n0_ := Aside0.mk (Kd.R_below (qR HO531.out) hb); have n1_ := Aside0.mk (Kd.R_below (qR HO534.out) hb); have n2_ := Aside0.mk (blk_below (g := gb525) (o := .cells #[.slice A0_0 l0_0.length c0_0, .slice A0_1 l0_1.length c0_1] 25 (0, 0)) (qK BK525.out) hb); have n3_ := Aside0.mk (blk_below (g := gb526) (o := .cells #[.slice none 0 0, .slice none 0 0] 25 (0, 0)) (qK BK526.out) hb); have n4_ := Aside0.mk (below_step (by repeat (first | (with_reducible first | exact HB.out | apply below_alloc | apply pw_below_drewN | apply below_drew1 | refine below_set ?_ GE525.out | refine below_set ?_ GE526.out) | exact HB.out)) hb); have n5_ := Aside0.mk (hbox); have n6_ := Aside0.mk ((by rw [hg]; exact (below_size (by repeat (first | (with_reducible first | exact HB.out | apply below_alloc | apply pw_below_drewN | apply below_drew1 | refine below_set ?_ GE525.out | refine below_set ?_ GE526.out) | exact HB.out))) : w.heap.size ≤ gb536)); have n7_ := Aside0.mk ((by rw [hg]; exact (below_size (by repeat (first | (with_reducible first | exact HB.out | apply below_alloc | apply pw_below_drewN | apply below_drew1 | refine below_set ?_ GE525.out | refine below_set ?_ GE526.out) | exact HB.out))) : w.heap.size ≤ gb536)); have n8_ := Aside0.mk ((by rw [hg]; exact Nat.ne_of_lt (blk_lt (g := gb525) (o := .cells #[.slice A0_0 l0_0.length c0_0, .slice A0_1 l0_1.length c0_1] 25 (0, 0)) (qK BK525.out)) : gb525 ≠ gb536)); have n9_ := Aside0.mk ((by rw [hg]; exact Nat.ne_of_gt (blk_lt (g := gb525) (o := .cells #[.slice A0_0 l0_0.length c0_0, .slice A0_1 l0_1.length c0_1] 25 (0, 0)) (qK BK525.out)) : gb536 ≠ gb525)); have n10_ := Aside0.mk ((by rw [hg]; exact Nat.ne_of_lt (blk_lt (g := gb526) (o := .cells #[.slice none 0 0, .slice none 0 0] 25 (0, 0)) (qK BK526.out)) : gb526 ≠ gb536)); have n11_ := Aside0.mk ((by rw [hg]; exact Nat.ne_of_gt (blk_lt (g := gb526) (o := .cells #[.slice none 0 0, .slice none 0 0] 25 (0, 0)) (qK BK526.out)) : gb536 ≠ gb526)); clear HO531; clear HO534; clear BK525; clear BK526; clear HB; have HO531 := n0_; have HO534 := n1_; have BK525 := n2_; have BK526 := n3_; have HB := n4_; have BK536 := n5_; have GW536 := n6_; have GE536 := n7_; have NB525_536 := n8_; have NB536_525 := n9_; have NB526_536 := n10_; have NB536_526 := n11_; clear n0_ n1_ n2_ n3_ n4_ n5_ n6_ n7_ n8_ n9_ n10_ n11_; clear hb hbox hg; obtain ⟨Ao78, co78, eo78⟩ := Kd.R_slice HO531.out; subst eo78; have hnb79 := NB536_525.out; have hnc79 := NB525_536.out; have hnb80 := NB536_526.out; have hnc80 := NB526_536.out; have hcz81_0 : w77.cell? ⟨gb536, 0, none⟩ = some (.slice none 0 0) := (blk_cell BK536.out 0).trans rfl; have hcz81_1 : w77.cell? ⟨gb536, 1, none⟩ = some (.slice none 0 0) := (blk_cell BK536.out 1).trans rfl; have hfz81_0 := blk_frozen BK536.out 0; have hfz81_1 := blk_frozen BK536.out 1; obtain ⟨Ao82, co82, eo82⟩ := Kd.R_slice HO534.out; subst eo82; have hcz83_0 : w77.cell? ⟨gb525, 0, none⟩ = some (.slice A0_0 l0_0.length c0_0) := (blk_cell BK525.out 0).trans rfl; have hcz83_1 : w77.cell? ⟨gb525, 1, none⟩ = some (.slice A0_1 l0_1.length c0_1) := (blk_cell BK525.out 1).trans rfl; have hfz83_0 := blk_frozen BK525.out 0; have hfz83_1 := blk_frozen BK525.out 1) | ((with_reducible refine gate_callee (f := 14) rfl ?_); refine goesL_ (some 29) rfl rfl Tryd.func14 (by kernel_rfl) rfl #[.agg #[.slice A0_0 l0_0.length c0_0, .slice A0_1 l0_1.length c0_1], .agg #[.slice Ao78 t529.length co78, .slice Ao82 t532.length co82]] rfl qL ?_; (with_reducible refine (rat_Cmp.calls k _ _ l0_0 _ _ l0_1 _ _ t529 _ _ t532 t537 t538 _ ?side1 ?side2 ?side3 ?side4 ?side5 ?side6 ?side7 ?side8 A6.out).mono ?_); (case side1 => exact Kd.C_below HR0_0.out (by repeat (first | (with_reducible first | exact HB.out | apply below_alloc | apply pw_below_drewN | apply below_drew1 | refine below_set ?_ GE525.out | refine below_set ?_ GE526.out | refine below_set ?_ GE536.out) | exact HB.out))); (case side2 => exact HC0_0.out); (case side3 => exact Kd.C_below HR0_1.out (by repeat (first | (with_reducible first | exact HB.out | apply below_alloc | apply pw_below_drewN | apply below_drew1 | refine below_set ?_ GE525.out | refine below_set ?_ GE526.out | refine below_set ?_ GE536.out) | exact HB.out))); (case side4 => exact HC0_1.out); (case side5 => refine (Kd.R_reads' (e := 47) (base := w.heap.size) (ok := fun k_ => some k_ ≠ (.slice Ao82 t532.length co82 : Value).ownBlock) (n := t529.length) (c := co78) ?_).2.2; exact (by (with_reducible repeat (first | apply Kd.R_alloc | apply Kd.R_drewN | apply Kd.R_drew)); exact (Kd.R_mono (Kd.R_far (p := ⟨gb536, 1, none⟩) (Kd.R_far (p := ⟨gb536, 0, none⟩) (Kd.R_types HO531.out BK536.out (by decide)) (fun _ hk => hk.2) (.slice Ao78 t529.length co78)) (fun _ hk => hk.2) (.slice Ao82 t532.length co82)) (fun _ h_ => h_.1)))); (case side6 => exact (Kd.R_reads' HO531.out).2.1); (case side7 => refine (Kd.R_reads' (e := 47) (base := w.heap.size) (ok := fun k_ => some k_ ≠ (.slice Ao78 t529.length co78 : Value).ownBlock) (n := t532.length) (c := co82) ?_).2.2; exact (by (with_reducible repeat (first | apply Kd.R_alloc | apply Kd.R_drewN | apply Kd.R_drew)); exact (Kd.R_mono (Kd.R_far (p := ⟨gb536, 1, none⟩) (Kd.R_far (p := ⟨gb536, 0, none⟩) (Kd.R_types HO534.out BK536.out (by decide)) (fun _ hk => hk.2) (.slice Ao78 t529.length co78)) (fun _ hk => hk.2) (.slice Ao82 t532.length co82)) (fun _ h_ => h_.1)))); (case side8 => exact (Kd.R_reads' HO534.out).2.1); rintro e w84 ⟨rfl, hb⟩; refine ⟨_, rfl, ?_⟩; have n0_ := Aside0.mk (Kd.R_below (by (with_reducible repeat (first | apply Kd.R_alloc | apply Kd.R_drewN | apply Kd.R_drew)); exact (Kd.R_mono (Kd.R_far (p := ⟨gb536, 1, none⟩) (Kd.R_far (p := ⟨gb536, 0, none⟩) (Kd.R_types HO531.out BK536.out (by decide)) (fun _ hk => hk.2) (.slice Ao78 t529.length co78)) (fun _ hk => hk.2) (.slice Ao82 t532.length co82)) (fun _ h_ => h_.1))) hb); have n1_ := Aside0.mk (Kd.R_below (by (with_reducible repeat (first | apply Kd.R_alloc | apply Kd.R_drewN | apply Kd.R_drew)); exact (Kd.R_mono (Kd.R_far (p := ⟨gb536, 1, none⟩) (Kd.R_far (p := ⟨gb536, 0, none⟩) (Kd.R_types HO534.out BK536.out (by decide)) (fun _ hk => hk.2) (.slice Ao78 t529.length co78)) (fun _ hk => hk.2) (.slice Ao82 t532.length co82)) (fun _ h_ => h_.1))) hb); have n2_ := Aside0.mk (blk_below (g := gb525) (o := .cells #[.slice A0_0 l0_0.length c0_0, .slice A0_1 l0_1.length c0_1] 25 (0, 0)) (by (with_reducible repeat (first | refine blk_drewN ?_ _ | refine blk_drew ?_ | refine blk_alloc ?_ _)); refine blk_far ?_ NB525_536.out _; (with_reducible repeat (first | refine blk_drewN ?_ _ | refine blk_drew ?_ | refine blk_alloc ?_ _)); refine blk_far ?_ NB525_536.out _; (with_reducible repeat (first | refine blk_drewN ?_ _ | refine blk_drew ?_ | refine blk_alloc ?_ _)); exact BK525.out) hb); have n3_ := Aside0.mk (blk_below (g := gb526) (o := .cells #[.slice none 0 0, .slice none 0 0] 25 (0, 0)) (by (with_reducible repeat (first | refine blk_drewN ?_ _ | refine blk_drew ?_ | refine blk_alloc ?_ _)); refine blk_far ?_ NB526_536.out _; (with_reducible repeat (first | refine blk_drewN ?_ _ | refine blk_drew ?_ | refine blk_alloc ?_ _)); refine blk_far ?_ NB526_536.out _; (with_reducible repeat (first | refine blk_drewN ?_ _ | refine blk_drew ?_ | refine blk_alloc ?_ _)); exact BK526.out) hb); have n4_ := Aside0.mk (blk_below (g := gb536) (o := .cells #[.slice Ao78 t529.length co78, .slice Ao82 t532.length co82] 25 (0, 0)) (by (with_reducible repeat (first | refine blk_drewN ?_ _ | refine blk_drew ?_ | refine blk_alloc ?_ _)); refine blk_put (cs := #[.slice Ao78 t529.length co78, .slice none 0 0]) ?_ 1 _ rfl; (with_reducible repeat (first | refine blk_drewN ?_ _ | refine blk_drew ?_ | refine blk_alloc ?_ _)); refine blk_put (cs := #[.slice none 0 0, .slice none 0 0]) ?_ 0 _ rfl; (with_reducible repeat (first | refine blk_drewN ?_ _ | refine blk_drew ?_ | refine blk_alloc ?_ _)); exact BK536.out) hb); have n5_ := Aside0.mk (below_step (by repeat (first | (with_reducible first | exact HB.out | apply below_alloc | apply pw_below_drewN | apply below_drew1 | refine below_set ?_ GE525.out | refine below_set ?_ GE526.out | refine below_set ?_ GE536.out) | exact HB.out)) hb); clear HO531; clear HO534; clear BK525; clear BK526; clear BK536; clear HB; have HO531 := n0_; have HO534 := n1_; have BK525 := n2_; have BK526 := n3_; have BK536 := n4_; have HB := n5_; clear n0_ n1_ n2_ n3_ n4_ n5_; (try clear hb); (try clear hb2); (try clear hk); (try clear hi); have hcz85_0 : w84.cell? ⟨gb526, 0, none⟩ = some (.slice none 0 0) := (blk_cell BK526.out 0).trans rfl; have hcz85_1 : w84.cell? ⟨gb526, 1, none⟩ = some (.slice none 0 0) := (blk_cell BK526.out 1).trans rfl; have hfz85_0 := blk_frozen BK526.out 0; have hfz85_1 := blk_frozen BK526.out 1))
    refine bodyPost_ret (results_ct rfl _ _ gb526 25 #[.slice none 0 0, .slice none 0 0] (0, 0) _ rfl (by (with_reducible repeat (first | refine blk_drewN ?_ _ | refine blk_drew ?_ | refine blk_alloc ?_ _)); refine blk_put (cs := #[.slice none 0 0, .slice none 0 0]) ?_ 1 _ rfl; (with_reducible repeat (first | refine blk_drewN ?_ _ | refine blk_drew ?_ | refine blk_alloc ?_ _)); refine blk_put (cs := #[.slice none 0 0, .slice none 0 0]) ?_ 0 _ rfl; (with_reducible repeat (first | refine blk_drewN ?_ _ | refine blk_drew ?_ | refine blk_alloc ?_ _)); exact BK526.out) Tryd.underlying25 rfl (by kernel_rfl)) rfl ?_
    exact ⟨_, _, by first | rfl | (simp [errW_none, errW_some] <;> rfl) | (simp [*, errW_none, errW_some] <;> rfl), by first | exact Kd.R_nil _ _ _ _ _ | exact Kd.N_nil _ _ _ _ _ | exact Kd.V_nil _ _ _ _ _ | exact Kd.Q_nil _ _ _ _ _ | exact Kd.S_nil _ _ _ _ _, by first | exact Kd.R_nil _ _ _ _ _ | exact Kd.N_nil _ _ _ _ _ | exact Kd.V_nil _ _ _ _ _ | exact Kd.Q_nil _ _ _ _ _ | exact Kd.S_nil _ _ _ _ _, by repeat (first | (with_reducible first | exact HB.out | apply below_alloc | apply pw_below_drewN | apply below_drew1 | refine below_set ?_ GE525.out | refine below_set ?_ GE526.out | refine below_set ?_ GE536.out) | exact HB.out)⟩
  ·rw [if_neg c5] at H
   have c5b0 : (t535 == 0) = false := beq_eq_false_iff_ne.mpr c5
   have c5b1 : (t535 != 0) = true := bne_iff_ne.mpr c5
   simp only [Option.some.injEq, Prod.mk.injEq] at H
   obtain ⟨rfl, rfl, rfl⟩ := H
   go_enter Tryd.func12, Tryd.ntmps12
   go_wp2_with (first | ((with_reducible refine gate_dst (N := 1) rfl ?_); refine box_event ?hg (N := 1) ?hd (cs := #[.slice A0_0 l0_0.length c0_0, .slice A0_1 l0_1.length c0_1]) (t := 25) ?hr ?_; (case hd => rfl); (case hg => rfl); (case hr => first | (go_simp; done) | (go_simp; rfl)); intro gb525 hg w86 hbox hb; have n0_ := Aside0.mk (below_step qB hb); have n1_ := Aside0.mk (hbox); have n2_ := Aside0.mk ((qZ hg : w.heap.size ≤ gb525)); have n3_ := Aside0.mk ((qZ hg : w.heap.size ≤ gb525)); clear HB; have HB := n0_; have BK525 := n1_; have GW525 := n2_; have GE525 := n3_; clear n0_ n1_ n2_ n3_; clear hb hbox hg) | ((with_reducible refine gate_dst (N := 2) rfl ?_); refine box_event ?hg (N := 2) ?hd (cs := #[.slice none 0 0, .slice none 0 0]) (t := 25) ?hr ?_; (case hd => rfl); (case hg => rfl); (case hr => first | (go_simp; done) | (go_simp; rfl)); intro gb526 hg w87 hbox hb; have n0_ := Aside0.mk (blk_below (g := gb525) (o := .cells #[.slice A0_0 l0_0.length c0_0, .slice A0_1 l0_1.length c0_1] 25 (0, 0)) (qK BK525.out) hb); have n1_ := Aside0.mk (below_step (qG GE525.out) hb); have n2_ := Aside0.mk (hbox); have n3_ := Aside0.mk ((by rw [hg]; exact (below_size (qG GE525.out)) : w.heap.size ≤ gb526)); have n4_ := Aside0.mk ((by rw [hg]; exact (below_size (qG GE525.out)) : w.heap.size ≤ gb526)); have n5_ := Aside0.mk ((by rw [hg]; exact Nat.ne_of_lt (blk_lt (g := gb525) (o := .cells #[.slice A0_0 l0_0.length c0_0, .slice A0_1 l0_1.length c0_1] 25 (0, 0)) (qK BK525.out)) : gb525 ≠ gb526)); have n6_ := Aside0.mk ((by rw [hg]; exact Nat.ne_of_gt (blk_lt (g := gb525) (o := .cells #[.slice A0_0 l0_0.length c0_0, .slice A0_1 l0_1.length c0_1] 25 (0, 0)) (qK BK525.out)) : gb526 ≠ gb525)); clear BK525; clear HB; have BK525 := n0_; have HB := n1_; have BK526 := n2_; have GW526 := n3_; have GE526 := n4_; have NB525_526 := n5_; have NB526_525 := n6_; clear n0_ n1_ n2_ n3_ n4_ n5_ n6_; clear hb hbox hg; have hnb88 := NB525_526.out; have hnc88 := NB526_525.out; have hcz89_0 : w87.cell? ⟨gb525, 0, none⟩ = some (.slice A0_0 l0_0.length c0_0) := (blk_cell BK525.out 0).trans rfl; have hcz89_1 : w87.cell? ⟨gb525, 1, none⟩ = some (.slice A0_1 l0_1.length c0_1) := (blk_cell BK525.out 1).trans rfl; have hfz89_0 := blk_frozen BK525.out 0; have hfz89_1 := blk_frozen BK525.out 1) | ((with_reducible refine gate_callee (f := 10) rfl ?_); refine goesL_ (some 10) rfl rfl Tryd.func10 (by kernel_rfl) rfl #[.agg #[.slice A0_0 l0_0.length c0_0, .slice A0_1 l0_1.length c0_1]] rfl qL ?_; (with_reducible refine (approx_Float.calls k _ _ l0_0 _ _ l0_1 t527 t528 _ ?side1 ?side2 ?side3 ?side4 A2.out).mono ?_); (case side1 => exact qC (Kd.C_below HR0_0.out HB.out)); (case side2 => exact HC0_0.out); (case side3 => exact qC (Kd.C_below HR0_1.out HB.out)); (case side4 => exact HC0_1.out); rintro e w90 ⟨rfl, hb⟩; refine ⟨_, rfl, ?_⟩; have n0_ := Aside0.mk (blk_below (g := gb525) (o := .cells #[.slice A0_0 l0_0.length c0_0, .slice A0_1 l0_1.length c0_1] 25 (0, 0)) (qK BK525.out) hb); have n1_ := Aside0.mk (blk_below (g := gb526) (o := .cells #[.slice none 0 0, .slice none 0 0] 25 (0, 0)) (qK BK526.out) hb); have n2_ := Aside0.mk (below_step (by repeat (first | (with_reducible first | exact HB.out | apply below_alloc | apply pw_below_drewN | apply below_drew1 | refine below_set ?_ GE525.out | refine below_set ?_ GE526.out) | exact HB.out)) hb); clear BK525; clear BK526; clear HB; have BK525 := n0_; have BK526 := n1_; have HB := n2_; clear n0_ n1_ n2_; (try clear hb); (try clear hb2); (try clear hk); (try clear hi)) | ((with_reducible refine gate_callee (f := 11) rfl ?_); refine goesL_ (some 19) rfl rfl Tryd.func11 (by kernel_rfl) rfl #[.float .f64 t527] rfl qL ?_; (with_reducible refine (approx_Exact.calls k t527 t529 t532 t535 _ A4.out).mono ?_); rintro e w91 ⟨v530, v533, rfl, ho0, ho1, hb⟩; refine ⟨_, rfl, ?_⟩; have n0_ := Aside0.mk (Kd.R_lower ho0 (below_size (by repeat (first | (with_reducible first | exact HB.out | apply below_alloc | apply pw_below_drewN | apply below_drew1 | refine below_set ?_ GE525.out | refine below_set ?_ GE526.out) | exact HB.out)))); have n1_ := Aside0.mk (Kd.R_lower ho1 (below_size (by repeat (first | (with_reducible first | exact HB.out | apply below_alloc | apply pw_below_drewN | apply below_drew1 | refine below_set ?_ GE525.out | refine below_set ?_ GE526.out) | exact HB.out)))); have n2_ := Aside0.mk (blk_below (g := gb525) (o := .cells #[.slice A0_0 l0_0.length c0_0, .slice A0_1 l0_1.length c0_1] 25 (0, 0)) (qK BK525.out) hb); have n3_ := Aside0.mk (blk_below (g := gb526) (o := .cells #[.slice none 0 0, .slice none 0 0] 25 (0, 0)) (qK BK526.out) hb); have n4_ := Aside0.mk (below_step (by repeat (first | (with_reducible first | exact HB.out | apply below_alloc | apply pw_below_drewN | apply below_drew1 | refine below_set ?_ GE525.out | refine below_set ?_ GE526.out) | exact HB.out)) hb); clear BK525; clear BK526; clear HB; have HO531 := n0_; have HO534 := n1_; have BK525 := n2_; have BK526 := n3_; have HB := n4_; clear n0_ n1_ n2_ n3_ n4_; (try clear hb); (try clear hb2); (try clear hk); (try clear hi); (try clear ho0); (try clear ho1)) | ((with_reducible refine gate_dst (N := 6) rfl ?_); refine box_event ?hg (N := 6) ?hd (cs := #[.slice none 0 0, .slice none 0 0]) (t := 25) ?hr ?_; (case hd => rfl); (case hg => rfl); (case hr => first | (go_simp; done) | (go_simp; rfl)); intro gb536 hg w92 hbox hb; have n0_ := Aside0.mk (Kd.R_below (qR HO531.out) hb); have n1_ := Aside0.mk (Kd.R_below (qR HO534.out) hb); have n2_ := Aside0.mk (blk_below (g := gb525) (o := .cells #[.slice A0_0 l0_0.length c0_0, .slice A0_1 l0_1.length c0_1] 25 (0, 0)) (qK BK525.out) hb); have n3_ := Aside0.mk (blk_below (g := gb526) (o := .cells #[.slice none 0 0, .slice none 0 0] 25 (0, 0)) (qK BK526.out) hb); have n4_ := Aside0.mk (below_step (by repeat (first | (with_reducible first | exact HB.out | apply below_alloc | apply pw_below_drewN | apply below_drew1 | refine below_set ?_ GE525.out | refine below_set ?_ GE526.out) | exact HB.out)) hb); have n5_ := Aside0.mk (hbox); have n6_ := Aside0.mk ((by rw [hg]; exact (below_size (by repeat (first | (with_reducible first | exact HB.out | apply below_alloc | apply pw_below_drewN | apply below_drew1 | refine below_set ?_ GE525.out | refine below_set ?_ GE526.out) | exact HB.out))) : w.heap.size ≤ gb536)); have n7_ := Aside0.mk ((by rw [hg]; exact (below_size (by repeat (first | (with_reducible first | exact HB.out | apply below_alloc | apply pw_below_drewN | apply below_drew1 | refine below_set ?_ GE525.out | refine below_set ?_ GE526.out) | exact HB.out))) : w.heap.size ≤ gb536)); have n8_ := Aside0.mk ((by rw [hg]; exact Nat.ne_of_lt (blk_lt (g := gb525) (o := .cells #[.slice A0_0 l0_0.length c0_0, .slice A0_1 l0_1.length c0_1] 25 (0, 0)) (qK BK525.out)) : gb525 ≠ gb536)); have n9_ := Aside0.mk ((by rw [hg]; exact Nat.ne_of_gt (blk_lt (g := gb525) (o := .cells #[.slice A0_0 l0_0.length c0_0, .slice A0_1 l0_1.length c0_1] 25 (0, 0)) (qK BK525.out)) : gb536 ≠ gb525)); have n10_ := Aside0.mk ((by rw [hg]; exact Nat.ne_of_lt (blk_lt (g := gb526) (o := .cells #[.slice none 0 0, .slice none 0 0] 25 (0, 0)) (qK BK526.out)) : gb526 ≠ gb536)); have n11_ := Aside0.mk ((by rw [hg]; exact Nat.ne_of_gt (blk_lt (g := gb526) (o := .cells #[.slice none 0 0, .slice none 0 0] 25 (0, 0)) (qK BK526.out)) : gb536 ≠ gb526)); clear HO531; clear HO534; clear BK525; clear BK526; clear HB; have HO531 := n0_; have HO534 := n1_; have BK525 := n2_; have BK526 := n3_; have HB := n4_; have BK536 := n5_; have GW536 := n6_; have GE536 := n7_; have NB525_536 := n8_; have NB536_525 := n9_; have NB526_536 := n10_; have NB536_526 := n11_; clear n0_ n1_ n2_ n3_ n4_ n5_ n6_ n7_ n8_ n9_ n10_ n11_; clear hb hbox hg; obtain ⟨Ao93, co93, eo93⟩ := Kd.R_slice HO531.out; subst eo93; have hnb94 := NB536_525.out; have hnc94 := NB525_536.out; have hnb95 := NB536_526.out; have hnc95 := NB526_536.out; have hcz96_0 : w92.cell? ⟨gb536, 0, none⟩ = some (.slice none 0 0) := (blk_cell BK536.out 0).trans rfl; have hcz96_1 : w92.cell? ⟨gb536, 1, none⟩ = some (.slice none 0 0) := (blk_cell BK536.out 1).trans rfl; have hfz96_0 := blk_frozen BK536.out 0; have hfz96_1 := blk_frozen BK536.out 1; obtain ⟨Ao97, co97, eo97⟩ := Kd.R_slice HO534.out; subst eo97; have hcz98_0 : w92.cell? ⟨gb526, 0, none⟩ = some (.slice none 0 0) := (blk_cell BK526.out 0).trans rfl; have hcz98_1 : w92.cell? ⟨gb526, 1, none⟩ = some (.slice none 0 0) := (blk_cell BK526.out 1).trans rfl; have hfz98_0 := blk_frozen BK526.out 0; have hfz98_1 := blk_frozen BK526.out 1))
   refine bodyPost_ret (results_ct rfl _ _ gb526 25 #[.slice none 0 0, .slice none 0 0] (0, 0) _ rfl (by (with_reducible repeat (first | refine blk_drewN ?_ _ | refine blk_drew ?_ | refine blk_alloc ?_ _)); refine blk_put (cs := #[.slice none 0 0, .slice none 0 0]) ?_ 1 _ rfl; (with_reducible repeat (first | refine blk_drewN ?_ _ | refine blk_drew ?_ | refine blk_alloc ?_ _)); refine blk_put (cs := #[.slice none 0 0, .slice none 0 0]) ?_ 0 _ rfl; (with_reducible repeat (first | refine blk_drewN ?_ _ | refine blk_drew ?_ | refine blk_alloc ?_ _)); refine blk_far ?_ NB526_536.out _; (with_reducible repeat (first | refine blk_drewN ?_ _ | refine blk_drew ?_ | refine blk_alloc ?_ _)); refine blk_far ?_ NB526_536.out _; (with_reducible repeat (first | refine blk_drewN ?_ _ | refine blk_drew ?_ | refine blk_alloc ?_ _)); exact BK526.out) Tryd.underlying25 rfl (by kernel_rfl)) rfl ?_
   exact ⟨_, _, by first | rfl | (simp [errW_none, errW_some] <;> rfl) | (simp [*, errW_none, errW_some] <;> rfl), by first | exact Kd.R_nil _ _ _ _ _ | exact Kd.N_nil _ _ _ _ _ | exact Kd.V_nil _ _ _ _ _ | exact Kd.Q_nil _ _ _ _ _ | exact Kd.S_nil _ _ _ _ _, by first | exact Kd.R_nil _ _ _ _ _ | exact Kd.N_nil _ _ _ _ _ | exact Kd.V_nil _ _ _ _ _ | exact Kd.Q_nil _ _ _ _ _ | exact Kd.S_nil _ _ _ _ _, by repeat (first | (with_reducible first | exact HB.out | apply below_alloc | apply pw_below_drewN | apply below_drew1 | refine below_set ?_ GE525.out | refine below_set ?_ GE526.out | refine below_set ?_ GE536.out) | exact HB.out)⟩
 ·rw [if_neg c3] at H
  have c3b0 : (t528 == 0) = false := beq_eq_false_iff_ne.mpr c3
  have c3b1 : (t528 != 0) = true := bne_iff_ne.mpr c3
  simp only [Option.some.injEq, Prod.mk.injEq] at H
  obtain ⟨rfl, rfl, rfl⟩ := H
  go_enter Tryd.func12, Tryd.ntmps12
  go_wp2_with (first | ((with_reducible refine gate_dst (N := 1) rfl ?_); refine box_event ?hg (N := 1) ?hd (cs := #[.slice A0_0 l0_0.length c0_0, .slice A0_1 l0_1.length c0_1]) (t := 25) ?hr ?_; (case hd => rfl); (case hg => rfl); (case hr => first | (go_simp; done) | (go_simp; rfl)); intro gb525 hg w99 hbox hb; have n0_ := Aside0.mk (below_step qB hb); have n1_ := Aside0.mk (hbox); have n2_ := Aside0.mk ((qZ hg : w.heap.size ≤ gb525)); have n3_ := Aside0.mk ((qZ hg : w.heap.size ≤ gb525)); clear HB; have HB := n0_; have BK525 := n1_; have GW525 := n2_; have GE525 := n3_; clear n0_ n1_ n2_ n3_; clear hb hbox hg) | ((with_reducible refine gate_dst (N := 2) rfl ?_); refine box_event ?hg (N := 2) ?hd (cs := #[.slice none 0 0, .slice none 0 0]) (t := 25) ?hr ?_; (case hd => rfl); (case hg => rfl); (case hr => first | (go_simp; done) | (go_simp; rfl)); intro gb526 hg w100 hbox hb; have n0_ := Aside0.mk (blk_below (g := gb525) (o := .cells #[.slice A0_0 l0_0.length c0_0, .slice A0_1 l0_1.length c0_1] 25 (0, 0)) (qK BK525.out) hb); have n1_ := Aside0.mk (below_step (qG GE525.out) hb); have n2_ := Aside0.mk (hbox); have n3_ := Aside0.mk ((by rw [hg]; exact (below_size (qG GE525.out)) : w.heap.size ≤ gb526)); have n4_ := Aside0.mk ((by rw [hg]; exact (below_size (qG GE525.out)) : w.heap.size ≤ gb526)); have n5_ := Aside0.mk ((by rw [hg]; exact Nat.ne_of_lt (blk_lt (g := gb525) (o := .cells #[.slice A0_0 l0_0.length c0_0, .slice A0_1 l0_1.length c0_1] 25 (0, 0)) (qK BK525.out)) : gb525 ≠ gb526)); have n6_ := Aside0.mk ((by rw [hg]; exact Nat.ne_of_gt (blk_lt (g := gb525) (o := .cells #[.slice A0_0 l0_0.length c0_0, .slice A0_1 l0_1.length c0_1] 25 (0, 0)) (qK BK525.out)) : gb526 ≠ gb525)); clear BK525; clear HB; have BK525 := n0_; have HB := n1_; have BK526 := n2_; have GW526 := n3_; have GE526 := n4_; have NB525_526 := n5_; have NB526_525 := n6_; clear n0_ n1_ n2_ n3_ n4_ n5_ n6_; clear hb hbox hg; have hnb101 := NB525_526.out; have hnc101 := NB526_525.out; have hcz102_0 : w100.cell? ⟨gb525, 0, none⟩ = some (.slice A0_0 l0_0.length c0_0) := (blk_cell BK525.out 0).trans rfl; have hcz102_1 : w100.cell? ⟨gb525, 1, none⟩ = some (.slice A0_1 l0_1.length c0_1) := (blk_cell BK525.out 1).trans rfl; have hfz102_0 := blk_frozen BK525.out 0; have hfz102_1 := blk_frozen BK525.out 1) | ((with_reducible refine gate_callee (f := 10) rfl ?_); refine goesL_ (some 10) rfl rfl Tryd.func10 (by kernel_rfl) rfl #[.agg #[.slice A0_0 l0_0.length c0_0, .slice A0_1 l0_1.length c0_1]] rfl qL ?_; (with_reducible refine (approx_Float.calls k _ _ l0_0 _ _ l0_1 t527 t528 _ ?side1 ?side2 ?side3 ?side4 A2.out).mono ?_); (case side1 => exact qC (Kd.C_below HR0_0.out HB.out)); (case side2 => exact HC0_0.out); (case side3 => exact qC (Kd.C_below HR0_1.out HB.out)); (case side4 => exact HC0_1.out); rintro e w103 ⟨rfl, hb⟩; refine ⟨_, rfl, ?_⟩; have n0_ := Aside0.mk (blk_below (g := gb525) (o := .cells #[.slice A0_0 l0_0.length c0_0, .slice A0_1 l0_1.length c0_1] 25 (0, 0)) (qK BK525.out) hb); have n1_ := Aside0.mk (blk_below (g := gb526) (o := .cells #[.slice none 0 0, .slice none 0 0] 25 (0, 0)) (qK BK526.out) hb); have n2_ := Aside0.mk (below_step (by repeat (first | (with_reducible first | exact HB.out | apply below_alloc | apply pw_below_drewN | apply below_drew1 | refine below_set ?_ GE525.out | refine below_set ?_ GE526.out) | exact HB.out)) hb); clear BK525; clear BK526; clear HB; have BK525 := n0_; have BK526 := n1_; have HB := n2_; clear n0_ n1_ n2_; (try clear hb); (try clear hb2); (try clear hk); (try clear hi); have hcz104_0 : w103.cell? ⟨gb526, 0, none⟩ = some (.slice none 0 0) := (blk_cell BK526.out 0).trans rfl; have hcz104_1 : w103.cell? ⟨gb526, 1, none⟩ = some (.slice none 0 0) := (blk_cell BK526.out 1).trans rfl; have hfz104_0 := blk_frozen BK526.out 0; have hfz104_1 := blk_frozen BK526.out 1))
  refine bodyPost_ret (results_ct rfl _ _ gb526 25 #[.slice none 0 0, .slice none 0 0] (0, 0) _ rfl (by (with_reducible repeat (first | refine blk_drewN ?_ _ | refine blk_drew ?_ | refine blk_alloc ?_ _)); refine blk_put (cs := #[.slice none 0 0, .slice none 0 0]) ?_ 1 _ rfl; (with_reducible repeat (first | refine blk_drewN ?_ _ | refine blk_drew ?_ | refine blk_alloc ?_ _)); refine blk_put (cs := #[.slice none 0 0, .slice none 0 0]) ?_ 0 _ rfl; (with_reducible repeat (first | refine blk_drewN ?_ _ | refine blk_drew ?_ | refine blk_alloc ?_ _)); exact BK526.out) Tryd.underlying25 rfl (by kernel_rfl)) rfl ?_
  exact ⟨_, _, by first | rfl | (simp [errW_none, errW_some] <;> rfl) | (simp [*, errW_none, errW_some] <;> rfl), by first | exact Kd.R_nil _ _ _ _ _ | exact Kd.N_nil _ _ _ _ _ | exact Kd.V_nil _ _ _ _ _ | exact Kd.Q_nil _ _ _ _ _ | exact Kd.S_nil _ _ _ _ _, by first | exact Kd.R_nil _ _ _ _ _ | exact Kd.N_nil _ _ _ _ _ | exact Kd.V_nil _ _ _ _ _ | exact Kd.Q_nil _ _ _ _ _ | exact Kd.S_nil _ _ _ _ _, by repeat (first | (with_reducible first | exact HB.out | apply below_alloc | apply pw_below_drewN | apply below_drew1 | refine below_set ?_ GE525.out | refine below_set ?_ GE526.out) | exact HB.out)⟩

/-! ### math_NaN: function 21 -/
def math_NaN.f  : Option (Nat) := some 9221120237041090561
set_option maxHeartbeats 8000000 in
set_option maxRecDepth 100000 in
theorem math_NaN.calls  (r : Nat) (w : World) (h : math_NaN.f  = some r) :
  Calls Tryd.prog 21 #[] w fun e w' => e = .returned (.float .f64 r) ∧ Drawn0 w w' := by
 have H : (some 9221120237041090561) = some r := h
 clear h
 obtain rfl := Option.some.inj H
 have hxf64from_run_ := @f64from_run
 go_enter Tryd.func21, Tryd.ntmps21
 go_wp2
 go_ret
 exact ⟨by first | rfl | (simp; done) | (simp [*]; done), by repeat (first | exact Drawn0.refl _ | apply Drawn0.step)⟩

/-! ### nat_digits: function 66 -/
def nat_digits.f (a0 : Int) : Option (ByteArray) := if 0 ≤ a0 then (if a0 ≤ 4294967295 then some (strOfNums ([48 + a0 / 10 / 10 / 10 / 10 / 10 / 10 / 10 / 10 % 10, 48 + a0 / 10 / 10 / 10 / 10 / 10 / 10 / 10 % 10, 48 + a0 / 10 / 10 / 10 / 10 / 10 / 10 % 10, 48 + a0 / 10 / 10 / 10 / 10 / 10 % 10, 48 + a0 / 10 / 10 / 10 / 10 % 10, 48 + a0 / 10 / 10 / 10 % 10, 48 + a0 / 10 / 10 % 10, 48 + a0 / 10 % 10, 48 + a0 % 10] : List Int)) else none) else none
set_option maxHeartbeats 4000000 in
set_option maxRecDepth 100000 in
theorem nat_digits.calls (a0 : Int) (r : ByteArray) (w : World) (h : nat_digits.f a0 = some r) :
  Calls Tryd.prog 66 #[.int .u32 a0] w fun e w' => e = .returned (.string r) ∧ Below w.heap.size w w' := by
 unfold nat_digits.f at h
 by_cases h0 : 0 ≤ a0
 ·rw [if_pos h0] at h
  by_cases h1 : a0 ≤ 4294967295
  ·rw [if_pos h1] at h
   have hr := Aside0.mk (Option.some.inj h)
   clear h
   go_enter Tryd.func66, Tryd.ntmps66
   go_wp2
   refine wp_loop_rounds 10 ?_
   rw [rounds_succ]; go_wp2
   rw [rounds_succ]; go_wp2
   rw [rounds_succ]; go_wp2
   rw [rounds_succ]; go_wp2
   rw [rounds_succ]; go_wp2
   rw [rounds_succ]; go_wp2
   rw [rounds_succ]; go_wp2
   rw [rounds_succ]; go_wp2
   rw [rounds_succ]; go_wp2
   rw [rounds_succ]; go_wp2
   rw [run_convert_bytes_arg (P := Tryd.prog) _ 94 5 Tryd.underlying94 Tryd.underlying5 w.heap.size 0 9 9 ([48 + a0 / 10 / 10 / 10 / 10 / 10 / 10 / 10 / 10 % 10, 48 + a0 / 10 / 10 / 10 / 10 / 10 / 10 / 10 % 10, 48 + a0 / 10 / 10 / 10 / 10 / 10 / 10 % 10, 48 + a0 / 10 / 10 / 10 / 10 / 10 % 10, 48 + a0 / 10 / 10 / 10 / 10 % 10, 48 + a0 / 10 / 10 / 10 % 10, 48 + a0 / 10 / 10 % 10, 48 + a0 / 10 % 10, 48 + a0 % 10]) rfl (fun i hi => by
    obtain rfl | rfl | rfl | rfl | rfl | rfl | rfl | rfl | rfl : i = 0 ∨ i = 1 ∨ i = 2 ∨ i = 3 ∨ i = 4 ∨ i = 5 ∨ i = 6 ∨ i = 7 ∨ i = 8 := by omega
    all_goals exact (blk_cell (heap_alloc_new w _) _).trans rfl) 9 Tryd.underlying9]
   go_wp2
   go_ret
   exact ⟨by rw [← hr.out]; rfl, (Below.refl _ _).alloc (Nat.le_refl _) _⟩
  ·rw [if_neg h1] at h
   exact absurd h (by simp)
 ·rw [if_neg h0] at h
  exact absurd h (by simp)

/-! ### strings_trimLeftByte: function 76 -/
def strings_trimLeftByte.l0 : Nat → ByteArray → Int → Option (ByteArray)
 | 0, _, _ => none
 | k + 1, x0, x1 => if (x0.size : Int) > 0 then (if 0 < (x0.size : Int) then (if (bt x0 0) = x1 then (if 1 ≤ (x0.size : Int) then (strings_trimLeftByte.l0 k (x0.extract 1 x0.size) x1) else (none)) else (some x0)) else (none)) else (some x0)
def strings_trimLeftByte.f (k : Nat) (a0 : ByteArray) (a1 : Int) : Option (ByteArray) := strings_trimLeftByte.l0 k a0 a1
theorem strings_trimLeftByte.mono_l : ∀ k, (∀ y0 y1, LeO (strings_trimLeftByte.l0 k y0 y1) (strings_trimLeftByte.l0 (k + 1) y0 y1))
 | 0 => fun _ _ r h => by simp [strings_trimLeftByte.l0] at h
 | k + 1 => by
  have ih0 := strings_trimLeftByte.mono_l k
  ·intro y0 y1
   unfold strings_trimLeftByte.l0
   repeat' first
   | (with_reducible exact ih0 _ _)
   | (with_reducible exact LeO.refl _)
   | (with_reducible exact LeO.none _)
   | (with_reducible refine LeO.ite ?_ ?_)
   | (with_reducible refine LeO.bind ?_ (fun _ => ?_))
   | exact ih0 _ _
   | exact LeO.none _
   | refine LeO.ite ?_ ?_
   | refine LeO.bind ?_ (fun _ => ?_)
theorem strings_trimLeftByte.mono : ∀ a0 a1 k, LeO (strings_trimLeftByte.f k a0 a1) (strings_trimLeftByte.f (k + 1) a0 a1) := by
 intro a0 a1 k
 have ih0 := strings_trimLeftByte.mono_l k
 unfold strings_trimLeftByte.f
 repeat' first
   | (with_reducible exact ih0 _ _)
   | (with_reducible exact LeO.refl _)
   | (with_reducible exact LeO.none _)
   | (with_reducible refine LeO.ite ?_ ?_)
   | (with_reducible refine LeO.bind ?_ (fun _ => ?_))
   | exact ih0 _ _
   | exact LeO.none _
   | refine LeO.ite ?_ ?_
   | refine LeO.bind ?_ (fun _ => ?_)
set_option maxHeartbeats 8000000 in
set_option maxRecDepth 100000 in
theorem strings_trimLeftByte.calls (k : Nat) (a0 : ByteArray) (a1 : Int) (r : ByteArray) (w : World) (h : strings_trimLeftByte.f k a0 a1 = some r) :
  Calls Tryd.prog 76 #[.string a0, .int .u8 a1] w fun e w' => e = .returned (.string r) ∧ Drawn0 w w' := by
 have H : (strings_trimLeftByte.l0 k a0 a1) = some r := h
 clear h
 have H' := Aside0.mk H
 clear H
 go_enter Tryd.func76, Tryd.ntmps76
 go_wp2
 go_loopg [0] k (fun kq v0 w' => ∃ (x0_1 : ByteArray), v0 = .string x0_1 ∧ Aside0 (strings_trimLeftByte.l0 kq x0_1 a1 = some r) ∧ Aside0 (kq ≤ k) ∧ Drawn0 w w')
 case atStart => exact ⟨(a0), (by first | rfl | (simp; done) | (simp [*]; done)), H', ⟨Nat.le_refl _⟩, by repeat (first | exact Drawn0.refl _ | apply Drawn0.step)⟩
 case round =>
  clear H'
  try clear p2
  obtain ⟨x0_1, rfl, HA, HK1, ⟨m1, rfl⟩⟩ := hrel
  cases gk with
  | zero => exact absurd HA.out (by simp [strings_trimLeftByte.l0])
  | succ k1 =>
   have H := HA.out
   clear HA
   simp only [strings_trimLeftByte.l0] at H
   by_cases c3 : (x0_1.size : Int) > 0
   ·rw [if_pos c3] at H
    have c3b0 : decide (0 < (x0_1.size : Int)) = true := decide_eq_true c3
    have c3b1 : decide (0 < x0_1.size) = true := decide_eq_true (by omega)
    clear c3
    by_cases c4 : 0 < (x0_1.size : Int)
    ·rw [if_pos c4] at H
     have c4b0 : decide (0 < (x0_1.size : Int)) = true := decide_eq_true c4
     have c4b1 : decide (0 < x0_1.size) = true := decide_eq_true (by omega)
     clear c4
     by_cases c6 : (bt x0_1 0) = a1
     ·rw [if_pos c6] at H
      have c6b0 : ((bt x0_1 0) == a1) = true := beq_iff_eq.mpr c6
      have c6b1 : ((bt x0_1 0) != a1) = false := bne_eq_false_iff_eq.mpr c6
      clear c6
      by_cases c7 : 1 ≤ (x0_1.size : Int)
      ·rw [if_pos c7] at H
       have c7b0 := eq_true c7
       have c7b1 : decide (1 ≤ (x0_1.size : Int)) = true := decide_eq_true c7
       clear c7
       have H' := Aside0.mk H
       clear H
       have p5 : 0 ≤ (0 : Int) := (by omega)
       have q5 : 0 < x0_1.size := (by have : (0 : Int) < (x0_1.size : Int) := of_decide_eq_true qA; omega)
       have hx5 : ∀ h : 0 < x0_1.size, ((x0_1[0]'h).toNat : Int) = bt x0_1 0 := bt_at x0_1 0
       clear p5
       have qi5 : (0 < (x0_1.size : Int)) = True := eq_true (of_decide_eq_true qA)
       replace q5 := eq_true q5
       go_wp2
       go_roundg k1
       case measure => have := HK1.out; omega
       case rel => exact ⟨(x0_1.extract 1 x0_1.size), (by first | rfl | (simp; done) | (simp [*]; done)), H', ⟨by have := HK1.out; omega⟩, by repeat (first | exact Drawn0.refl _ | apply Drawn0.step)⟩
      ·rw [if_neg c7] at H
       exact absurd H (by simp)
     ·rw [if_neg c6] at H
      have c6b0 : ((bt x0_1 0) == a1) = false := beq_eq_false_iff_ne.mpr c6
      have c6b1 : ((bt x0_1 0) != a1) = true := bne_iff_ne.mpr c6
      obtain rfl := Option.some.inj H
      have p5 : 0 ≤ (0 : Int) := (by omega)
      have q5 : 0 < x0_1.size := (by have : (0 : Int) < (x0_1.size : Int) := of_decide_eq_true qA; omega)
      have hx5 : ∀ h : 0 < x0_1.size, ((x0_1[0]'h).toNat : Int) = bt x0_1 0 := bt_at x0_1 0
      clear p5
      have qi5 : (0 < (x0_1.size : Int)) = True := eq_true (of_decide_eq_true qA)
      replace q5 := eq_true q5
      go_wp2
      go_ret
      exact ⟨by first | rfl | (simp; done) | (simp [*]; done), by repeat (first | exact Drawn0.refl _ | apply Drawn0.step)⟩
    ·rw [if_neg c4] at H
     exact absurd H (by simp)
   ·rw [if_neg c3] at H
    have c3b0 : decide (0 < (x0_1.size : Int)) = false := decide_eq_false c3
    have c3b1 : decide (0 < x0_1.size) = false := decide_eq_false (by omega)
    clear c3
    obtain rfl := Option.some.inj H
    go_wp2
    go_ret
    exact ⟨by first | rfl | (simp; done) | (simp [*]; done), by repeat (first | exact Drawn0.refl _ | apply Drawn0.step)⟩

-- NOT PRINTED: function 77 (strings_makeASCIISet)

-- NOT PRINTED: function 80 (strings_asciiSet_contains)

-- NOT PRINTED: function 78 (strings_trimLeftASCII)

-- NOT PRINTED: function 83 (utf8_decodeRuneInStringSlow)

-- NOT PRINTED: function 81 (utf8_DecodeRuneInString)

-- NOT PRINTED: function 90 (bytealg_IndexByteString)

-- NOT PRINTED: function 89 (stringslite_IndexByte)

-- NOT PRINTED: function 85 (strings_IndexByte)

/-! ### utf8_ValidRune: function 86 -/
def utf8_ValidRune.j0 : Nat → Int → Bool → Option (Bool)
 | 0, _, _ => none
 | k + 1, x0, x3 => if x3 = true then (some true) else (if 57343 < x0 then (if x0 ≤ 1114111 then (some true) else (some false)) else (some false))
def utf8_ValidRune.f (k : Nat) (a0 : Int) : Option (Bool) := if 0 ≤ a0 then (utf8_ValidRune.j0 k a0 (decide (a0 < 55296))) else (utf8_ValidRune.j0 k a0 false)
theorem utf8_ValidRune.mono_l : ∀ k, (∀ y0 y1, LeO (utf8_ValidRune.j0 k y0 y1) (utf8_ValidRune.j0 (k + 1) y0 y1))
 | 0 => fun _ _ r h => by simp [utf8_ValidRune.j0] at h
 | k + 1 => by
  have ih0 := utf8_ValidRune.mono_l k
  ·intro y0 y1
   unfold utf8_ValidRune.j0
   repeat' first
   | (with_reducible exact ih0 _ _)
   | (with_reducible exact LeO.refl _)
   | (with_reducible exact LeO.none _)
   | (with_reducible refine LeO.ite ?_ ?_)
   | (with_reducible refine LeO.bind ?_ (fun _ => ?_))
   | exact ih0 _ _
   | exact LeO.none _
   | refine LeO.ite ?_ ?_
   | refine LeO.bind ?_ (fun _ => ?_)
theorem utf8_ValidRune.mono : ∀ a0 k, LeO (utf8_ValidRune.f k a0) (utf8_ValidRune.f (k + 1) a0) := by
 intro a0 k
 have ih0 := utf8_ValidRune.mono_l k
 unfold utf8_ValidRune.f
 repeat' first
   | (with_reducible exact ih0 _ _)
   | (with_reducible exact LeO.refl _)
   | (with_reducible exact LeO.none _)
   | (with_reducible refine LeO.ite ?_ ?_)
   | (with_reducible refine LeO.bind ?_ (fun _ => ?_))
   | exact ih0 _ _
   | exact LeO.none _
   | refine LeO.ite ?_ ?_
   | refine LeO.bind ?_ (fun _ => ?_)
set_option maxHeartbeats 8000000 in
set_option maxRecDepth 100000 in
theorem utf8_ValidRune.calls (k : Nat) (a0 : Int) (r : Bool) (w : World) (h : utf8_ValidRune.f k a0 = some r) :
  Calls Tryd.prog 86 #[.int .i32 a0] w fun e w' => e = .returned (.bool r) ∧ Drawn0 w w' := by
 have H : (if 0 ≤ a0 then (utf8_ValidRune.j0 k a0 (decide (a0 < 55296))) else (utf8_ValidRune.j0 k a0 false)) = some r := h
 clear h
 have HC2 := Aside0.mk H
 clear H
 go_enter Tryd.func86, Tryd.ntmps86
 go_upto_region 1 with (fail)
 go_cut [3] (fun v3 wc => ∃ (kq : Nat) (x3_1 : Bool), v3 = .bool x3_1 ∧ Aside0 (utf8_ValidRune.j0 kq a0 x3_1 = some r) ∧ Aside0 (kq ≤ k) ∧ Drawn0 w wc)
 case first =>
  have H := HC2.out
  clear HC2
  by_cases c3 : 0 ≤ a0
  ·rw [if_pos c3] at H
   have c3b0 : decide (0 ≤ a0) = true := decide_eq_true c3
   clear c3
   (first | rw [c3b0] | (simp only [i64_w, i32_w]; rw [c3b0]) | skip)
   have H' := Aside0.mk H
   clear H
   go_wp2
   go_meet
   case rel => exact ⟨_, (decide (a0 < 55296)), (by first | rfl | (simp; done) | (simp [*]; done)), H', ⟨by first | omega | exact Nat.le_refl _⟩, by repeat (first | exact Drawn0.refl _ | apply Drawn0.step)⟩
  ·rw [if_neg c3] at H
   have c3b0 : decide (0 ≤ a0) = false := decide_eq_false c3
   clear c3
   (first | rw [c3b0] | (simp only [i64_w, i32_w]; rw [c3b0]) | skip)
   have H' := Aside0.mk H
   clear H
   go_wp2
   go_meet
   case rel => exact ⟨_, (false), (by first | rfl | (simp; done) | (simp [*]; done)), H', ⟨by first | omega | exact Nat.le_refl _⟩, by repeat (first | exact Drawn0.refl _ | apply Drawn0.step)⟩
 case rest =>
  clear HC2
  try clear p2
  try clear c3
  try clear c3b0
  obtain ⟨kq, x3_1, rfl, HA, HJ1, ⟨mc1, rfl⟩⟩ := hcut
  cases kq with
  | zero => exact absurd HA.out (by simp [utf8_ValidRune.j0])
  | succ kj1 =>
   have H := HA.out
   clear HA
   simp only [utf8_ValidRune.j0] at H
   by_cases c4 : x3_1 = true
   ·subst c4
    have H1 : (some true) = some r := by rw [if_pos rfl] at H; exact H
    clear H
    have H := H1
    clear H1
    obtain rfl := Option.some.inj H
    go_wp2
    go_ret
    exact ⟨by first | rfl | (simp; done) | (simp [*]; done), by repeat (first | exact Drawn0.refl _ | apply Drawn0.step)⟩
   ·replace c4 := Bool.eq_false_iff.mpr c4
    subst c4
    have H1 : (if 57343 < a0 then (if a0 ≤ 1114111 then (some true) else (some false)) else (some false)) = some r := by rw [if_neg (show ¬ (false = true) by decide)] at H; exact H
    clear H
    have H := H1
    clear H1
    by_cases c5 : 57343 < a0
    ·rw [if_pos c5] at H
     have c5b0 : decide (57343 < a0) = true := decide_eq_true c5
     clear c5
     by_cases c6 : a0 ≤ 1114111
     ·rw [if_pos c6] at H
      have c6b0 : decide (a0 ≤ 1114111) = true := decide_eq_true c6
      clear c6
      obtain rfl := Option.some.inj H
      go_wp2
      go_ret
      exact ⟨by first | rfl | (simp; done) | (simp [*]; done), by repeat (first | exact Drawn0.refl _ | apply Drawn0.step)⟩
     ·rw [if_neg c6] at H
      have c6b0 : decide (a0 ≤ 1114111) = false := decide_eq_false c6
      clear c6
      obtain rfl := Option.some.inj H
      go_wp2
      go_ret
      exact ⟨by first | rfl | (simp; done) | (simp [*]; done), by repeat (first | exact Drawn0.refl _ | apply Drawn0.step)⟩
    ·rw [if_neg c5] at H
     have c5b0 : decide (57343 < a0) = false := decide_eq_false c5
     clear c5
     obtain rfl := Option.some.inj H
     go_wp2
     go_ret
     exact ⟨by first | rfl | (simp; done) | (simp [*]; done), by repeat (first | exact Drawn0.refl _ | apply Drawn0.step)⟩

/-! ### bytealg_Cutover: function 87 -/
def bytealg_Cutover.f (a0 : Int) : Option (Int) := some (wrap64 (Int.tdiv (wrap64 (a0 + 16)) 8))
set_option maxHeartbeats 8000000 in
set_option maxRecDepth 100000 in
theorem bytealg_Cutover.calls (a0 : Int) (r : Int) (w : World) (h : bytealg_Cutover.f a0 = some r) :
  Calls Tryd.prog 87 #[.int .i64 a0] w fun e w' => e = .returned (.int .i64 r) ∧ Drawn0 w w' := by
 have H : (some (wrap64 (Int.tdiv (wrap64 (a0 + 16)) 8))) = some r := h
 clear h
 obtain rfl := Option.some.inj H
 go_enter Tryd.func87, Tryd.ntmps87
 go_wp2
 go_ret
 exact ⟨by first | rfl | (simp; done) | (simp [*]; done), by repeat (first | exact Drawn0.refl _ | apply Drawn0.step)⟩

-- NOT PRINTED: function 88 (bytealg_IndexString)

-- NOT PRINTED: function 84 (strings_IndexRune)

-- NOT PRINTED: function 82 (strings_ContainsRune)

-- NOT PRINTED: function 79 (strings_trimLeftUnicode)

-- NOT PRINTED: function 67 (strings_TrimLeft)

/-! ### strings_TrimLeft__c2: function 67 -/
def strings_TrimLeft__c2.f (k : Nat) (a0 : ByteArray) : Option (ByteArray) := if a0.toList = ([] : List UInt8) then (some a0) else ((strings_trimLeftByte.f k a0 48).bind fun t560 => (some t560))
theorem strings_TrimLeft__c2.mono : ∀ a0 k, LeO (strings_TrimLeft__c2.f k a0) (strings_TrimLeft__c2.f (k + 1) a0) := by
 intro a0 k
 unfold strings_TrimLeft__c2.f
 repeat' first
   | (with_reducible exact strings_trimLeftByte.mono _ _ _)
   | (with_reducible exact LeO.refl _)
   | (with_reducible exact LeO.none _)
   | (with_reducible refine LeO.ite ?_ ?_)
   | (with_reducible refine LeO.bind ?_ (fun _ => ?_))
   | exact strings_trimLeftByte.mono _ _ _
   | exact LeO.none _
   | refine LeO.ite ?_ ?_
   | refine LeO.bind ?_ (fun _ => ?_)
set_option maxHeartbeats 8000000 in
set_option maxRecDepth 100000 in
theorem strings_TrimLeft__c2.calls (k : Nat) (a0 : ByteArray) (r : ByteArray) (w : World) (h : strings_TrimLeft__c2.f k a0 = some r) :
  Calls Tryd.prog 67 #[.string a0, .string (⟨#[48]⟩ : ByteArray)] w fun e w' => e = .returned (.string r) ∧ Below w.heap.size w w' := by
 have HB := Aside0.mk (Below.refl w.heap.size w)
 have H : (if a0.toList = ([] : List UInt8) then (some a0) else ((strings_trimLeftByte.f k a0 48).bind fun t560 => (some t560))) = some r := h
 clear h
 by_cases c2 : a0.toList = ([] : List UInt8)
 ·rw [if_pos c2] at H
  have c2b0 : (a0.toList == ([] : List UInt8)) = true := beq_iff_eq.mpr c2
  have c2b1 : (a0.toList != ([] : List UInt8)) = false := bne_eq_false_iff_eq.mpr c2
  clear c2
  obtain rfl := Option.some.inj H
  go_enter Tryd.func67, Tryd.ntmps67
  go_wp2
  go_ret
  exact ⟨by first | rfl | (simp [errW_none, errW_some] <;> rfl) | (simp [*, errW_none, errW_some] <;> rfl), qB⟩
 ·rw [if_neg c2] at H
  have c2b0 : (a0.toList == ([] : List UInt8)) = false := beq_eq_false_iff_ne.mpr c2
  have c2b1 : (a0.toList != ([] : List UInt8)) = true := bne_iff_ne.mpr c2
  obtain ⟨t560, A30, H⟩ := Option.bind_eq_some_iff.mp H
  try dsimp only at H
  have A3 := Aside0.mk A30
  clear A30
  obtain rfl := Option.some.inj H
  go_enter Tryd.func67, Tryd.ntmps67
  go_wp2_with (first | ((with_reducible refine gate_callee (f := 76) rfl ?_); refine goesL_ (some 25) rfl rfl Tryd.func76 (by kernel_rfl) rfl #[.string a0, .int .u8 48] rfl qL ?_; (with_reducible refine (strings_trimLeftByte.calls k a0 48 t560 _ A3.out).mono ?_); rintro e w' ⟨rfl, ⟨nd, rfl⟩⟩; refine ⟨_, rfl, ?_⟩))
  go_ret
  exact ⟨by first | rfl | (simp [errW_none, errW_some] <;> rfl) | (simp [*, errW_none, errW_some] <;> rfl), qB⟩

/-! ### nat_Text: function 48 -/
def nat_Text.l0 : Nat → List Int → ByteArray → Option (ByteArray)
 | 0, _, _ => none
 | k + 1, x0, x3 => if (x0.length : Int) > 0 then ((nat_short.f k x0 1000000000).bind fun bt562 => ((nat_digits.f bt562.2).bind fun t566 => (if t566.size + x3.size ≤ 9223372036854775807 then (nat_Text.l0 k bt562.1 (t566 ++ x3)) else (none)))) else ((strings_TrimLeft__c2.f k x3).bind fun t567 => (if t567.toList = ([] : List UInt8) then (some (⟨#[48]⟩ : ByteArray)) else (some t567)))
def nat_Text.f (k : Nat) (l0 : List Int) : Option (ByteArray) := (nat_Right.f l0).bind fun t561 => (if t561 = true then (nat_Text.l0 k l0 (⟨#[]⟩ : ByteArray)) else (none))
theorem nat_Text.mono_l : ∀ k, (∀ y0 y1, LeO (nat_Text.l0 k y0 y1) (nat_Text.l0 (k + 1) y0 y1))
 | 0 => fun _ _ r h => by simp [nat_Text.l0] at h
 | k + 1 => by
  have ih0 := nat_Text.mono_l k
  ·intro y0 y1
   unfold nat_Text.l0
   repeat' first
   | (with_reducible exact ih0 _ _)
   | (with_reducible exact nat_short.mono _ _ _)
   | (with_reducible exact strings_TrimLeft__c2.mono _ _)
   | (with_reducible exact LeO.refl _)
   | (with_reducible exact LeO.none _)
   | (with_reducible refine LeO.ite ?_ ?_)
   | (with_reducible refine LeO.bind ?_ (fun _ => ?_))
   | exact ih0 _ _
   | exact nat_short.mono _ _ _
   | exact strings_TrimLeft__c2.mono _ _
   | exact LeO.none _
   | refine LeO.ite ?_ ?_
   | refine LeO.bind ?_ (fun _ => ?_)
theorem nat_Text.mono : ∀ a0 k, LeO (nat_Text.f k a0) (nat_Text.f (k + 1) a0) := by
 intro a0 k
 have ih0 := nat_Text.mono_l k
 unfold nat_Text.f
 repeat' first
   | (with_reducible exact ih0 _ _)
   | (with_reducible exact nat_short.mono _ _ _)
   | (with_reducible exact strings_TrimLeft__c2.mono _ _)
   | (with_reducible exact LeO.refl _)
   | (with_reducible exact LeO.none _)
   | (with_reducible refine LeO.ite ?_ ?_)
   | (with_reducible refine LeO.bind ?_ (fun _ => ?_))
   | exact ih0 _ _
   | exact nat_short.mono _ _ _
   | exact strings_TrimLeft__c2.mono _ _
   | exact LeO.none _
   | refine LeO.ite ?_ ?_
   | refine LeO.bind ?_ (fun _ => ?_)
set_option maxHeartbeats 8000000 in
set_option maxRecDepth 100000 in
theorem nat_Text.calls (k : Nat) (P0_ : Nat → Prop) (A0 : Option Addr) (c0 : Nat) (l0 : List Int) (r : ByteArray) (w : World) (hs0 : Kd.V (Kd.int .u32) 47 w w.heap.size (fun k_ => P0_ k_) (.slice A0 l0.length c0) l0) (h : nat_Text.f k l0 = some r) :
  Calls Tryd.prog 48 #[.slice A0 l0.length c0] w fun e w' => e = .returned (.string r) ∧ Below w.heap.size w w' := by
 have HO0 := Aside0.mk (show Kd.V (Kd.int .u32) 47 w w.heap.size (fun k_ => (P0_ k_ ∨ w.heap.size ≤ k_)) (.slice A0 l0.length c0) l0 from Kd.V_mono hs0 (fun k_ hk => .inl hk))
 have HB := Aside0.mk (Below.refl w.heap.size w)
 have H : ((nat_Right.f l0).bind fun t561 => (if t561 = true then (nat_Text.l0 k l0 (⟨#[]⟩ : ByteArray)) else (none))) = some r := h
 clear h
 obtain ⟨t561, A20, H⟩ := Option.bind_eq_some_iff.mp H
 try dsimp only at H
 have A2 := Aside0.mk A20
 clear A20
 by_cases c3 : t561 = true
 ·subst c3
  have H1 : (nat_Text.l0 k l0 (⟨#[]⟩ : ByteArray)) = some r := by rw [if_pos rfl] at H; exact H
  clear H
  have H := H1
  clear H1
  have H' := Aside0.mk H
  clear H
  go_enter Tryd.func48, Tryd.ntmps48
  go_wp2_with (first | ((with_reducible refine gate_callee (f := 44) rfl ?_); refine goesL_ (some 7) rfl rfl Tryd.func44 (by kernel_rfl) rfl #[.slice A0 l0.length c0] rfl qL ?_; (with_reducible refine (nat_Right.calls _ _ l0 true _ ?side1 ?side2 A2.out).mono ?_); (case side1 => exact qC (Kd.V_reads' HO0.out).2.2); (case side2 => exact (Kd.V_reads' HO0.out).2.1); rintro e w' ⟨rfl, ⟨nd, rfl⟩⟩; refine ⟨_, rfl, ?_⟩))
  go_loopg [0, 3] k (fun kq v0 v3 w' => ∃ (x0_1 : List Int) (x3_1 : ByteArray), v3 = .string x3_1 ∧ Aside0 (nat_Text.l0 kq x0_1 x3_1 = some r) ∧ Aside0 (kq ≤ k) ∧ Aside0 (Kd.V (Kd.int .u32) 47 w' w.heap.size (fun k_ => (P0_ k_ ∨ w.heap.size ≤ k_)) v0 x0_1) ∧ Aside0 (Below w.heap.size w w'))
  case atStart => exact ⟨(l0), ((⟨#[]⟩ : ByteArray)), (by first | rfl | (simp; done) | (simp [*]; done)), H', ⟨Nat.le_refl _⟩, ⟨by (with_reducible repeat (first | apply Kd.V_alloc | apply Kd.V_drewN | apply Kd.V_drew)); exact HO0.out⟩, ⟨qB⟩⟩
  case round =>
   clear H'
   try clear p2
   try clear c3
   obtain ⟨x0_1, x3_1, rfl, HA, HK1, HO_0, HB⟩ := hrel
   cases gk with
   | zero => exact absurd HA.out (by simp [nat_Text.l0])
   | succ k1 =>
    have H := HA.out
    clear HA
    simp only [nat_Text.l0] at H
    by_cases c4 : (x0_1.length : Int) > 0
    ·rw [if_pos c4] at H
     have c4b0 : decide (0 < (x0_1.length : Int)) = true := decide_eq_true c4
     have c4b1 : decide (0 < x0_1.length) = true := decide_eq_true (by omega)
     clear c4
     obtain ⟨⟨t562, t563⟩, A50, H⟩ := Option.bind_eq_some_iff.mp H
     try dsimp only at H
     have A5 := Aside0.mk A50
     clear A50
     obtain ⟨t566, A60, H⟩ := Option.bind_eq_some_iff.mp H
     try dsimp only at H
     have A6 := Aside0.mk A60
     clear A60
     by_cases c7 : t566.size + x3_1.size ≤ 9223372036854775807
     ·rw [if_pos c7] at H
      have c7b0 := eq_true c7
      have c7b1 : decide (t566.size + x3_1.size ≤ 9223372036854775807) = true := decide_eq_true c7
      try have c7b2 : (9223372036854775807 < t566.size + x3_1.size) = False := eq_false (Nat.not_lt.2 c7)
      have H' := Aside0.mk H
      clear H
      obtain ⟨Ao8, co8, eo8⟩ := Kd.V_slice HO_0.out
      subst eo8
      go_wp2_with (first | ((with_reducible refine gate_callee (f := 64) rfl ?_); refine goesL_ (some 14) rfl rfl Tryd.func64 (by kernel_rfl) rfl #[.slice Ao8 x0_1.length co8, .int .u32 1000000000] rfl qL ?_; (with_reducible refine (nat_short.calls k1 _ _ x0_1 1000000000 t562 t563 _ ?side1 ?side2 A5.out).mono ?_); (case side1 => exact qC (Kd.V_reads' HO_0.out).2.2); (case side2 => exact (Kd.V_reads' HO_0.out).2.1); rintro e w9 ⟨v564, rfl, ho0, hb⟩; refine ⟨_, rfl, ?_⟩; have n0_ := Aside0.mk (Kd.V_elder' (qV HO_0.out) (Kd.R_base ho0) hb); have n1_ := Aside0.mk (Kd.R_lower (Kd.R_newM (M := fun k_ => (w.heap.size ≤ k_)) ho0 (below_size qB) (fun k_ h_ => h_)) (below_size qB)); have n2_ := Aside0.mk (below_step qB hb); clear HO_0; clear HB; have HO_0 := n0_; have HO565 := n1_; have HB := n2_; clear n0_ n1_ n2_; (try clear hb); (try clear hb2); (try clear hk); (try clear hi); (try clear ho0)) | ((with_reducible refine gate_callee (f := 66) rfl ?_); refine goesL_ (some 18) rfl rfl Tryd.func66 (by kernel_rfl) rfl #[.int .u32 t563] rfl qL ?_; (with_reducible refine (nat_digits.calls t563 t566 _ A6.out).mono ?_); rintro e w10 ⟨rfl, hb⟩; refine ⟨_, rfl, ?_⟩; have n0_ := Aside0.mk (Kd.V_below (qV HO_0.out) hb); have n1_ := Aside0.mk (Kd.R_below (qR HO565.out) hb); have n2_ := Aside0.mk (below_step qB hb); clear HO_0; clear HO565; clear HB; have HO_0 := n0_; have HO565 := n1_; have HB := n2_; clear n0_ n1_ n2_; (try clear hb); (try clear hb2); (try clear hk); (try clear hi)))
      go_roundg k1
      case measure => have := HK1.out; omega
      case rel => exact ⟨(t562), (t566 ++ x3_1), (by first | rfl | (simp; done) | (simp [*]; done)), H', ⟨by have := HK1.out; omega⟩, ⟨Kd.V_mono (Kd.R_V (by (with_reducible repeat (first | apply Kd.R_alloc | apply Kd.R_drewN | apply Kd.R_drew)); exact Kd.R_mono HO565.out (fun _ hk => hk.1))) (fun k_ hk => by first | exact ⟨(.inr (hk.1)), hk.2⟩ | exact (.inr (hk)))⟩, ⟨qB⟩⟩
     ·rw [if_neg c7] at H
      exact absurd H (by simp)
    ·rw [if_neg c4] at H
     have c4b0 : decide (0 < (x0_1.length : Int)) = false := decide_eq_false c4
     have c4b1 : decide (0 < x0_1.length) = false := decide_eq_false (by omega)
     clear c4
     obtain ⟨t567, A110, H⟩ := Option.bind_eq_some_iff.mp H
     try dsimp only at H
     have A11 := Aside0.mk A110
     clear A110
     by_cases c12 : t567.toList = ([] : List UInt8)
     ·rw [if_pos c12] at H
      have c12b0 : (t567.toList == ([] : List UInt8)) = true := beq_iff_eq.mpr c12
      have c12b1 : (t567.toList != ([] : List UInt8)) = false := bne_eq_false_iff_eq.mpr c12
      clear c12
      obtain rfl := Option.some.inj H
      obtain ⟨Ao13, co13, eo13⟩ := Kd.V_slice HO_0.out
      subst eo13
      go_wp2_with (first | ((with_reducible refine gate_callee (f := 67) rfl ?_); refine goesL_ (some 23) rfl rfl Tryd.func67 (by kernel_rfl) rfl #[.string x3_1, .string (⟨#[48]⟩ : ByteArray)] rfl qL ?_; (with_reducible refine (strings_TrimLeft__c2.calls k1 x3_1 t567 _ A11.out).mono ?_); rintro e w14 ⟨rfl, hb⟩; refine ⟨_, rfl, ?_⟩; have n0_ := Aside0.mk (Kd.V_below (qV HO_0.out) hb); have n1_ := Aside0.mk (below_step qB hb); clear HO_0; clear HB; have HO_0 := n0_; have HB := n1_; clear n0_ n1_; (try clear hb); (try clear hb2); (try clear hk); (try clear hi)))
      go_ret
      exact ⟨by first | rfl | (simp [errW_none, errW_some] <;> rfl) | (simp [*, errW_none, errW_some] <;> rfl), qB⟩
     ·rw [if_neg c12] at H
      have c12b0 : (t567.toList == ([] : List UInt8)) = false := beq_eq_false_iff_ne.mpr c12
      have c12b1 : (t567.toList != ([] : List UInt8)) = true := bne_iff_ne.mpr c12
      obtain rfl := Option.some.inj H
      obtain ⟨Ao15, co15, eo15⟩ := Kd.V_slice HO_0.out
      subst eo15
      go_wp2_with (first | ((with_reducible refine gate_callee (f := 67) rfl ?_); refine goesL_ (some 23) rfl rfl Tryd.func67 (by kernel_rfl) rfl #[.string x3_1, .string (⟨#[48]⟩ : ByteArray)] rfl qL ?_; (with_reducible refine (strings_TrimLeft__c2.calls k1 x3_1 t567 _ A11.out).mono ?_); rintro e w16 ⟨rfl, hb⟩; refine ⟨_, rfl, ?_⟩; have n0_ := Aside0.mk (Kd.V_below (qV HO_0.out) hb); have n1_ := Aside0.mk (below_step qB hb); clear HO_0; clear HB; have HO_0 := n0_; have HB := n1_; clear n0_ n1_; (try clear hb); (try clear hb2); (try clear hk); (try clear hi)))
      go_ret
      exact ⟨by first | rfl | (simp [errW_none, errW_some] <;> rfl) | (simp [*, errW_none, errW_some] <;> rfl), qB⟩
 ·replace c3 := Bool.eq_false_iff.mpr c3
  subst c3
  have H1 : (none) = some r := by rw [if_neg (show ¬ (false = true) by decide)] at H; exact H
  clear H
  have H := H1
  clear H1
  exact absurd H (by simp)

/-! ### rat_Text: function 22 -/
def rat_Text.f (k : Nat) (l0_0 : List Int) (l0_1 : List Int) : Option (ByteArray) := (rat_Right.f k l0_0 l0_1).bind fun t569 => (if t569 = true then ((nat_Text.f k l0_0).bind fun t570 => (if t570.size + 1 ≤ 9223372036854775807 then ((nat_Text.f k l0_1).bind fun t571 => (if t570.size + 1 + t571.size ≤ 9223372036854775807 then (some ((t570 ++ (⟨#[47]⟩ : ByteArray)) ++ t571)) else (none))) else (none))) else (none))
theorem rat_Text.mono : ∀ a0 a1 k, LeO (rat_Text.f k a0 a1) (rat_Text.f (k + 1) a0 a1) := by
 intro a0 a1 k
 unfold rat_Text.f
 repeat' first
   | (with_reducible exact nat_Text.mono _ _)
   | (with_reducible exact rat_Right.mono _ _ _)
   | (with_reducible exact LeO.refl _)
   | (with_reducible exact LeO.none _)
   | (with_reducible refine LeO.ite ?_ ?_)
   | (with_reducible refine LeO.bind ?_ (fun _ => ?_))
   | exact nat_Text.mono _ _
   | exact rat_Right.mono _ _ _
   | exact LeO.none _
   | refine LeO.ite ?_ ?_
   | refine LeO.bind ?_ (fun _ => ?_)
def rat_Text.T3 : Bool × List (List Nat × List Nat) := (true, [([], []), ([0], [0]), ([1], [1]), ([2], [2]), ([], []), ([4], [4]), ([5, 2], [5]), ([3, 6], [3, 6]), ([7, 6, 0, 1, 2, 3, 4, 5, 6, 7], [7])])
def rat_Text.B3 : List Nat := [0, 1, 3, 7, 0, 16, 55, 127, 255]
theorem rat_Text.tab3 : rtab .any (opsOf Tryd.f22 3) = rat_Text.T3 := by kernel_rfl
theorem rat_Text.bits3 : waitsOk rat_Text.T3.2 rat_Text.B3 = true := by kernel_rfl
set_option maxHeartbeats 8000000 in
set_option maxRecDepth 100000 in
theorem rat_Text.calls (k : Nat) (A0_0 : Option Addr) (c0_0 : Nat) (l0_0 : List Int) (A0_1 : Option Addr) (c0_1 : Nat) (l0_1 : List Int) (r : ByteArray) (w : World) (hr0_0 : Kd.C (Kd.int .u32) w A0_0 l0_0.length l0_0) (hc0_0 : l0_0.length ≤ c0_0) (hr0_1 : Kd.C (Kd.int .u32) w A0_1 l0_1.length l0_1) (hc0_1 : l0_1.length ≤ c0_1) (h : rat_Text.f k l0_0 l0_1 = some r) :
  Calls Tryd.prog 22 #[.agg #[.slice A0_0 l0_0.length c0_0, .slice A0_1 l0_1.length c0_1]] w fun e w' => e = .returned (.string r) ∧ Below w.heap.size w w' := by
 have hu25 := Tryd.underlying25
 have HR0_0 := Aside0.mk hr0_0
 have HC0_0 := Aside0.mk hc0_0
 clear hr0_0 hc0_0
 have HR0_1 := Aside0.mk hr0_1
 have HC0_1 := Aside0.mk hc0_1
 clear hr0_1 hc0_1
 have HB := Aside0.mk (Below.refl w.heap.size w)
 have H : ((rat_Right.f k l0_0 l0_1).bind fun t569 => (if t569 = true then ((nat_Text.f k l0_0).bind fun t570 => (if t570.size + 1 ≤ 9223372036854775807 then ((nat_Text.f k l0_1).bind fun t571 => (if t570.size + 1 + t571.size ≤ 9223372036854775807 then (some ((t570 ++ (⟨#[47]⟩ : ByteArray)) ++ t571)) else (none))) else (none))) else (none))) = some r := h
 clear h
 obtain ⟨t569, A20, H⟩ := Option.bind_eq_some_iff.mp H
 try dsimp only at H
 have A2 := Aside0.mk A20
 clear A20
 by_cases c3 : t569 = true
 ·subst c3
  have H1 : ((nat_Text.f k l0_0).bind fun t570 => (if t570.size + 1 ≤ 9223372036854775807 then ((nat_Text.f k l0_1).bind fun t571 => (if t570.size + 1 + t571.size ≤ 9223372036854775807 then (some ((t570 ++ (⟨#[47]⟩ : ByteArray)) ++ t571)) else (none))) else (none))) = some r := by rw [if_pos rfl] at H; exact H
  clear H
  have H := H1
  clear H1
  obtain ⟨t570, A40, H⟩ := Option.bind_eq_some_iff.mp H
  try dsimp only at H
  have A4 := Aside0.mk A40
  clear A40
  by_cases c5 : t570.size + 1 ≤ 9223372036854775807
  ·rw [if_pos c5] at H
   have c5b0 := eq_true c5
   have c5b1 : decide (t570.size + 1 ≤ 9223372036854775807) = true := decide_eq_true c5
   try have c5b2 : (9223372036854775807 < t570.size + 1) = False := eq_false (Nat.not_lt.2 c5)
   obtain ⟨t571, A60, H⟩ := Option.bind_eq_some_iff.mp H
   try dsimp only at H
   have A6 := Aside0.mk A60
   clear A60
   by_cases c7 : t570.size + 1 + t571.size ≤ 9223372036854775807
   ·rw [if_pos c7] at H
    have c7b0 := eq_true c7
    have c7b1 : decide (t570.size + 1 + t571.size ≤ 9223372036854775807) = true := decide_eq_true c7
    try have c7b2 : (9223372036854775807 < t570.size + 1 + t571.size) = False := eq_false (Nat.not_lt.2 c7)
    obtain rfl := Option.some.inj H
    go_enter Tryd.func22, Tryd.ntmps22
    try go_wp2_with (first | ((with_reducible refine gate_dst (N := 1) rfl ?_); refine box_event ?hg (N := 1) ?hd (cs := #[.slice A0_0 l0_0.length c0_0, .slice A0_1 l0_1.length c0_1]) (t := 25) ?hr ?_; (case hd => rfl); (case hg => rfl); (case hr => first | (go_simp; done) | (go_simp; rfl)); intro gb568 hg w8 hbox hb; have n0_ := Aside0.mk (below_step qB hb); have n1_ := Aside0.mk (hbox); have n2_ := Aside0.mk ((qZ hg : w.heap.size ≤ gb568)); have n3_ := Aside0.mk ((qZ hg : w.heap.size ≤ gb568)); clear HB; have HB := n0_; have BK568 := n1_; have GW568 := n2_; have GE568 := n3_; clear n0_ n1_ n2_ n3_; clear hb hbox hg; have hcz9_0 : w8.cell? ⟨gb568, 0, none⟩ = some (.slice A0_0 l0_0.length c0_0) := (blk_cell BK568.out 0).trans rfl; have hcz9_1 : w8.cell? ⟨gb568, 1, none⟩ = some (.slice A0_1 l0_1.length c0_1) := (blk_cell BK568.out 1).trans rfl; have hfz9_0 := blk_frozen BK568.out 0; have hfz9_1 := blk_frozen BK568.out 1) | ((with_reducible refine gate_callee (f := 7) rfl ?_); refine goesL_ (some 4) rfl rfl Tryd.func7 (by kernel_rfl) rfl #[.agg #[.slice A0_0 l0_0.length c0_0, .slice A0_1 l0_1.length c0_1]] rfl qL ?_; (with_reducible refine (rat_Right.calls k _ _ l0_0 _ _ l0_1 true _ ?side1 ?side2 ?side3 ?side4 A2.out).mono ?_); (case side1 => exact qC (Kd.C_below HR0_0.out HB.out)); (case side2 => exact HC0_0.out); (case side3 => exact qC (Kd.C_below HR0_1.out HB.out)); (case side4 => exact HC0_1.out); rintro e w10 ⟨rfl, hb⟩; refine ⟨_, rfl, ?_⟩; have n0_ := Aside0.mk (blk_below (g := gb568) (o := .cells #[.slice A0_0 l0_0.length c0_0, .slice A0_1 l0_1.length c0_1] 25 (0, 0)) (qK BK568.out) hb); have n1_ := Aside0.mk (below_step (qG GE568.out) hb); clear BK568; clear HB; have BK568 := n0_; have HB := n1_; clear n0_ n1_; (try clear hb); (try clear hb2); (try clear hk); (try clear hi)))
    have n0_ := Aside0.mk (blk_drew BK568.out)
    have n1_ := Aside0.mk (below_drew1 HB.out)
    clear BK568
    clear HB
    have BK568 := n0_
    have HB := n1_
    clear n0_ n1_
    refine start_ (n := 9) (S := fun w' => w'.cell? ⟨gb568, 0, none⟩ = some (.slice A0_0 l0_0.length c0_0) ∧ w'.cell? ⟨gb568, 1, none⟩ = some (.slice A0_1 l0_1.length c0_1)) (ds := []) #[false, false, false, false, false, false, false, false, false] (by kernel_rfl) rfl rfl ⟨(blk_cell BK568.out 0).trans rfl, (blk_cell BK568.out 1).trans rfl⟩ (fun hHeld => ?_); refine with_tabW rat_Text.tab3 rat_Text.bits3 (fun HT_ HW_ => ?_)
    generalize w10.drew = w11 at BK568 HB hHeld ⊢
    refine qP 0 (some 6) ?_
    refine qP 4 (some 10) ?_
    refine take_ (i := 1) (N := some 7) (v := ?_) (a' := ?_) #[true, true, false, false, true, false, false, false, false] rfl rfl (take_ofW HT_.out HW_.out (by kernel_rfl)) (fun _ _ _ h => h) (Or.inl ⟨by rfl, ?_⟩) hHeld ?_ ?_
    rotate_left
    ·rintro w' ⟨s0, s1⟩
     go_simp
     with_reducible rfl
    rotate_left
    ·simp only [Act.put, List.setIfInBounds_toArray, List.set_cons_zero, List.set_cons_succ, i64_w, i32_w]
     rfl
    refine take_ (i := 5) (N := some 11) (v := ?_) (a' := ?_) #[true, true, false, false, true, true, false, false, false] rfl rfl (take_ofW HT_.out HW_.out (by kernel_rfl)) (fun _ _ _ h => h) (Or.inl ⟨by rfl, ?_⟩) hHeld ?_ ?_
    rotate_left
    ·rintro w' ⟨s0, s1⟩
     go_simp
     with_reducible rfl
    rotate_left
    ·simp only [Act.put, List.setIfInBounds_toArray, List.set_cons_zero, List.set_cons_succ, i64_w, i32_w]
     rfl
    refine one_ (i := 2) (N := some 8) #[true, true, true, false, true, true, false, false, false] rfl rfl (one_of HT_.out (by kernel_rfl)) (by decide) (fun K hK => ?_)
    refine goes_ Tryd.func48 (by kernel_rfl) rfl #[.slice A0_0 l0_0.length c0_0] (by rfl) rfl rfl qL ?_
    with_reducible refine (nat_Text.calls k (fun k_ => k_ < w.heap.size) _ _ l0_0 t570 _ ?side1 A4.out).mono ?_
    (case side1 => exact Kd.V_mk HC0_0.out (Kd.F_below (Kd.C_F (Kd.heap_int .u32) HR0_0.out) (qG GE568.out)))
    rintro e w12 ⟨rfl, hb⟩
    refine ⟨_, rfl, ?_⟩
    have n0_ := Aside0.mk (blk_below (g := gb568) (o := .cells #[.slice A0_0 l0_0.length c0_0, .slice A0_1 l0_1.length c0_1] 25 (0, 0)) (qK BK568.out) hb)
    have n1_ := Aside0.mk (below_step (qG GE568.out) hb)
    clear BK568
    clear HB
    have BK568 := n0_
    have HB := n1_
    clear n0_ n1_
    (try clear hb)
    (try clear hb2)
    (try clear hk)
    (try clear hi)
    refine hK.out _ _ ⟨(blk_cell BK568.out 0).trans rfl, (blk_cell BK568.out 1).trans rfl⟩ (fun hHeld => ?_)
    clear hK K
    refine norm_ (a' := ?_) ?_ ?_
    rotate_left
    ·show Act.put _ (some 8) _ = _
     simp only [Act.put, List.setIfInBounds_toArray, List.set_cons_zero, List.set_cons_succ, i64_w, i32_w]
     rfl
    refine qP 3 (some 9) ?_
    refine one_ (i := 6) (N := some 12) #[true, true, true, true, true, true, true, false, false] rfl rfl (one_of HT_.out (by kernel_rfl)) (by decide) (fun K hK => ?_)
    refine goes_ Tryd.func48 (by kernel_rfl) rfl #[.slice A0_1 l0_1.length c0_1] (by rfl) rfl rfl qL ?_
    with_reducible refine (nat_Text.calls k (fun k_ => k_ < w.heap.size) _ _ l0_1 t571 _ ?side1 A6.out).mono ?_
    (case side1 => exact Kd.V_mk HC0_1.out (Kd.F_below (Kd.C_F (Kd.heap_int .u32) HR0_1.out) (qG GE568.out)))
    rintro e w13 ⟨rfl, hb⟩
    refine ⟨_, rfl, ?_⟩
    have n0_ := Aside0.mk (blk_below (g := gb568) (o := .cells #[.slice A0_0 l0_0.length c0_0, .slice A0_1 l0_1.length c0_1] 25 (0, 0)) (qK BK568.out) hb)
    have n1_ := Aside0.mk (below_step (qG GE568.out) hb)
    clear BK568
    clear HB
    have BK568 := n0_
    have HB := n1_
    clear n0_ n1_
    (try clear hb)
    (try clear hb2)
    (try clear hk)
    (try clear hi)
    refine hK.out _ _ ⟨(blk_cell BK568.out 0).trans rfl, (blk_cell BK568.out 1).trans rfl⟩ (fun hHeld => ?_)
    clear hK K
    refine norm_ (a' := ?_) ?_ ?_
    rotate_left
    ·show Act.put _ (some 12) _ = _
     simp only [Act.put, List.setIfInBounds_toArray, List.set_cons_zero, List.set_cons_succ, i64_w, i32_w]
     rfl
    refine qP 7 (some 13) ?_
    refine qP 8 (some 2) ?_
    refine done_ (done_of HT_.out (by kernel_rfl)) ?_
    try go_wp2
    go_ret
    exact ⟨by first | rfl | (simp [errW_none, errW_some] <;> rfl) | (simp [*, errW_none, errW_some] <;> rfl), by repeat (first | (with_reducible first | exact HB.out | apply below_alloc | apply pw_below_drewN | apply below_drew1 | refine below_set ?_ GE568.out) | exact HB.out)⟩
   ·rw [if_neg c7] at H
    exact absurd H (by simp)
  ·rw [if_neg c5] at H
   exact absurd H (by simp)
 ·replace c3 := Bool.eq_false_iff.mpr c3
  subst c3
  have H1 : (none) = some r := by rw [if_neg (show ¬ (false = true) by decide)] at H; exact H
  clear H
  have H := H1
  clear H1
  exact absurd H (by simp)

end Go.Proofs.YtamhiecepipnjaaDoor.GApproxNear
