-- Written by gprint (wip/gprint), this session's program over the kit's print. Not trusted: Lean checks it.
import Derived.Test.YtamhiecepipnjaaDoorGApproxTwicex0
import Derived.Test.YtamhiecepipnjaaDoorGApproxTwicex5
import Derived.Test.YtamhiecepipnjaaDoorGApproxTwicex7
import Derived.Test.YtamhiecepipnjaaDoorGApproxTwicex9
namespace Go.Proofs.YtamhiecepipnjaaDoor.GApproxTwice
open Go.RowKit Go.Proofs.YtamhiecepipnjaaDoorW.PrintWords Go.Proofs.YtamhiecepipnjaaDoorW.PrintLast Go.Proofs.YtamhiecepipnjaaDoorW.PrintMore
attribute [local go_sem] max2_int min2_int max_two min_two max_three min_three max_four min_four   -- for this text's walks alone
set_option linter.unusedVariables false
set_option linter.unusedSimpArgs false

/-! ### rat_Add: function 9 -/
def rat_Add.f (k : Nat) (l0_0 : List Int) (l0_1 : List Int) (l1_0 : List Int) (l1_1 : List Int) : Option (List Int × List Int × Int) := (rat_joined__nat_Add.f k l0_0 l0_1 l1_0 l1_1).bind fun bt569 => (some (bt569.1, bt569.2.1, bt569.2.2))
theorem rat_Add.mono : ∀ a0 a1 a2 a3 k, LeO (rat_Add.f k a0 a1 a2 a3) (rat_Add.f (k + 1) a0 a1 a2 a3) := by
  intro a0 a1 a2 a3 k
  unfold rat_Add.f
  repeat' first
      | (with_reducible exact rat_joined__nat_Add.mono _ _ _ _ _)
      | (with_reducible exact LeO.refl _)
      | (with_reducible exact LeO.none _)
      | (with_reducible refine LeO.ite ?_ ?_)
      | (with_reducible refine LeO.bind ?_ (fun _ => ?_))
      | exact rat_joined__nat_Add.mono _ _ _ _ _
      | exact LeO.none _
      | refine LeO.ite ?_ ?_
      | refine LeO.bind ?_ (fun _ => ?_)
set_option maxHeartbeats 8000000 in
set_option maxRecDepth 100000 in
theorem rat_Add.calls (k : Nat) (A0_0 : Option Addr) (c0_0 : Nat) (l0_0 : List Int) (A0_1 : Option Addr) (c0_1 : Nat) (l0_1 : List Int) (A1_0 : Option Addr) (c1_0 : Nat) (l1_0 : List Int) (A1_1 : Option Addr) (c1_1 : Nat) (l1_1 : List Int) (r1 : List Int) (r2 : List Int) (r3 : Int) (w : World) (hr0_0 : Kd.C (Kd.int .u32) w A0_0 l0_0.length l0_0) (hc0_0 : l0_0.length ≤ c0_0) (hr0_1 : Kd.C (Kd.int .u32) w A0_1 l0_1.length l0_1) (hc0_1 : l0_1.length ≤ c0_1) (hr1_0 : Kd.C (Kd.int .u32) w A1_0 l1_0.length l1_0) (hc1_0 : l1_0.length ≤ c1_0) (hr1_1 : Kd.C (Kd.int .u32) w A1_1 l1_1.length l1_1) (hc1_1 : l1_1.length ≤ c1_1) (h : rat_Add.f k l0_0 l0_1 l1_0 l1_1 = some (r1, r2, r3)) :
    Calls Tryd.prog 9 #[.agg #[.slice A0_0 l0_0.length c0_0, .slice A0_1 l0_1.length c0_1], .agg #[.slice A1_0 l1_0.length c1_0, .slice A1_1 l1_1.length c1_1]] w fun e w' => ∃ v0_ v1_ : Value, e = .returned (.tuple #[.agg #[v0_, v1_], .int .i64 r3]) ∧ Kd.R (Kd.int .u32) 47 w' w.heap.size (fun k_ => some k_ ≠ (v1_ : Value).ownBlock) v0_ r1 ∧ Kd.R (Kd.int .u32) 47 w' w.heap.size (fun k_ => some k_ ≠ (v0_ : Value).ownBlock) v1_ r2 ∧ Below w.heap.size w w' := by
  have hu25 := Tryd.underlying25
  have HR0_0 := Aside0.mk hr0_0
  have HC0_0 := Aside0.mk hc0_0
  clear hr0_0 hc0_0
  have HR0_1 := Aside0.mk hr0_1
  have HC0_1 := Aside0.mk hc0_1
  clear hr0_1 hc0_1
  have HR1_0 := Aside0.mk hr1_0
  have HC1_0 := Aside0.mk hc1_0
  clear hr1_0 hc1_0
  have HR1_1 := Aside0.mk hr1_1
  have HC1_1 := Aside0.mk hc1_1
  clear hr1_1 hc1_1
  have HB := Aside0.mk (Below.refl w.heap.size w)
  have H : ((rat_joined__nat_Add.f k l0_0 l0_1 l1_0 l1_1).bind fun bt569 => (some (bt569.1, bt569.2.1, bt569.2.2))) = some (r1, r2, r3) := h
  clear h
  replace H := Option.bind_eq_some_iff.mp H
  obtain ⟨⟨t569, t572, t575⟩, A30, H⟩ := H
  replace H : (some (t569, t572, t575)) = some (r1, r2, r3) := H
  have A3 := Aside0.mk A30
  clear A30
  simp only [Option.some.injEq, Prod.mk.injEq] at H
  obtain ⟨rfl, rfl, rfl⟩ := H
  go_enter Tryd.func9, Tryd.ntmps9
  go_wp2_with (first | ((with_reducible refine gate_dst (N := 2) rfl ?_); refine box_event ?hg (N := 2) ?hd (cs := #[.slice A0_0 l0_0.length c0_0, .slice A0_1 l0_1.length c0_1]) (t := 25) ?hr ?_; (case hd => rfl); (case hg => rfl); (case hr => first | (go_simp; done) | (go_simp; rfl)); intro gb566 hg w4 hbox hb; have n0_ := Aside0.mk (below_step (by repeat (first | (with_reducible first | exact HB.out | apply below_alloc | apply pw_below_drewN | apply below_drew1) | exact HB.out)) hb); have n1_ := Aside0.mk (hbox); have n2_ := Aside0.mk ((by rw [hg]; exact (below_size (by repeat (first | (with_reducible first | exact HB.out | apply below_alloc | apply pw_below_drewN | apply below_drew1) | exact HB.out))) : w.heap.size ≤ gb566)); have n3_ := Aside0.mk ((by rw [hg]; exact (below_size (by repeat (first | (with_reducible first | exact HB.out | apply below_alloc | apply pw_below_drewN | apply below_drew1) | exact HB.out))) : w.heap.size ≤ gb566)); clear HB; have HB := n0_; have BK566 := n1_; have GW566 := n2_; have GE566 := n3_; clear n0_ n1_ n2_ n3_; clear hb hbox hg) | ((with_reducible refine gate_dst (N := 3) rfl ?_); refine box_event ?hg (N := 3) ?hd (cs := #[.slice A1_0 l1_0.length c1_0, .slice A1_1 l1_1.length c1_1]) (t := 25) ?hr ?_; (case hd => rfl); (case hg => rfl); (case hr => first | (go_simp; done) | (go_simp; rfl)); intro gb567 hg w5 hbox hb; have n0_ := Aside0.mk (blk_below (g := gb566) (o := .cells #[.slice A0_0 l0_0.length c0_0, .slice A0_1 l0_1.length c0_1] 25 (0, 0)) (by (with_reducible repeat (first | refine blk_drewN ?_ _ | refine blk_drew ?_ | refine blk_alloc ?_ _)); exact BK566.out) hb); have n1_ := Aside0.mk (below_step (by repeat (first | (with_reducible first | exact HB.out | apply below_alloc | apply pw_below_drewN | apply below_drew1 | refine below_set ?_ GE566.out) | exact HB.out)) hb); have n2_ := Aside0.mk (hbox); have n3_ := Aside0.mk ((by rw [hg]; exact (below_size (by repeat (first | (with_reducible first | exact HB.out | apply below_alloc | apply pw_below_drewN | apply below_drew1 | refine below_set ?_ GE566.out) | exact HB.out))) : w.heap.size ≤ gb567)); have n4_ := Aside0.mk ((by rw [hg]; exact (below_size (by repeat (first | (with_reducible first | exact HB.out | apply below_alloc | apply pw_below_drewN | apply below_drew1 | refine below_set ?_ GE566.out) | exact HB.out))) : w.heap.size ≤ gb567)); have n5_ := Aside0.mk ((by rw [hg]; exact Nat.ne_of_lt (blk_lt (g := gb566) (o := .cells #[.slice A0_0 l0_0.length c0_0, .slice A0_1 l0_1.length c0_1] 25 (0, 0)) (by (with_reducible repeat (first | refine blk_drewN ?_ _ | refine blk_drew ?_ | refine blk_alloc ?_ _)); exact BK566.out)) : gb566 ≠ gb567)); have n6_ := Aside0.mk ((by rw [hg]; exact Nat.ne_of_gt (blk_lt (g := gb566) (o := .cells #[.slice A0_0 l0_0.length c0_0, .slice A0_1 l0_1.length c0_1] 25 (0, 0)) (by (with_reducible repeat (first | refine blk_drewN ?_ _ | refine blk_drew ?_ | refine blk_alloc ?_ _)); exact BK566.out)) : gb567 ≠ gb566)); clear BK566; clear HB; have BK566 := n0_; have HB := n1_; have BK567 := n2_; have GW567 := n3_; have GE567 := n4_; have NB566_567 := n5_; have NB567_566 := n6_; clear n0_ n1_ n2_ n3_ n4_ n5_ n6_; clear hb hbox hg) | ((with_reducible refine gate_dst (N := 4) rfl ?_); refine box_event ?hg (N := 4) ?hd (cs := #[.slice none 0 0, .slice none 0 0]) (t := 25) ?hr ?_; (case hd => rfl); (case hg => rfl); (case hr => first | (go_simp; done) | (go_simp; rfl)); intro gb568 hg w6 hbox hb; have n0_ := Aside0.mk (blk_below (g := gb566) (o := .cells #[.slice A0_0 l0_0.length c0_0, .slice A0_1 l0_1.length c0_1] 25 (0, 0)) (by (with_reducible repeat (first | refine blk_drewN ?_ _ | refine blk_drew ?_ | refine blk_alloc ?_ _)); exact BK566.out) hb); have n1_ := Aside0.mk (blk_below (g := gb567) (o := .cells #[.slice A1_0 l1_0.length c1_0, .slice A1_1 l1_1.length c1_1] 25 (0, 0)) (by (with_reducible repeat (first | refine blk_drewN ?_ _ | refine blk_drew ?_ | refine blk_alloc ?_ _)); exact BK567.out) hb); have n2_ := Aside0.mk (below_step (by repeat (first | (with_reducible first | exact HB.out | apply below_alloc | apply pw_below_drewN | apply below_drew1 | refine below_set ?_ GE566.out | refine below_set ?_ GE567.out) | exact HB.out)) hb); have n3_ := Aside0.mk (hbox); have n4_ := Aside0.mk ((by rw [hg]; exact (below_size (by repeat (first | (with_reducible first | exact HB.out | apply below_alloc | apply pw_below_drewN | apply below_drew1 | refine below_set ?_ GE566.out | refine below_set ?_ GE567.out) | exact HB.out))) : w.heap.size ≤ gb568)); have n5_ := Aside0.mk ((by rw [hg]; exact (below_size (by repeat (first | (with_reducible first | exact HB.out | apply below_alloc | apply pw_below_drewN | apply below_drew1 | refine below_set ?_ GE566.out | refine below_set ?_ GE567.out) | exact HB.out))) : w.heap.size ≤ gb568)); have n6_ := Aside0.mk ((by rw [hg]; exact Nat.ne_of_lt (blk_lt (g := gb566) (o := .cells #[.slice A0_0 l0_0.length c0_0, .slice A0_1 l0_1.length c0_1] 25 (0, 0)) (by (with_reducible repeat (first | refine blk_drewN ?_ _ | refine blk_drew ?_ | refine blk_alloc ?_ _)); exact BK566.out)) : gb566 ≠ gb568)); have n7_ := Aside0.mk ((by rw [hg]; exact Nat.ne_of_gt (blk_lt (g := gb566) (o := .cells #[.slice A0_0 l0_0.length c0_0, .slice A0_1 l0_1.length c0_1] 25 (0, 0)) (by (with_reducible repeat (first | refine blk_drewN ?_ _ | refine blk_drew ?_ | refine blk_alloc ?_ _)); exact BK566.out)) : gb568 ≠ gb566)); have n8_ := Aside0.mk ((by rw [hg]; exact Nat.ne_of_lt (blk_lt (g := gb567) (o := .cells #[.slice A1_0 l1_0.length c1_0, .slice A1_1 l1_1.length c1_1] 25 (0, 0)) (by (with_reducible repeat (first | refine blk_drewN ?_ _ | refine blk_drew ?_ | refine blk_alloc ?_ _)); exact BK567.out)) : gb567 ≠ gb568)); have n9_ := Aside0.mk ((by rw [hg]; exact Nat.ne_of_gt (blk_lt (g := gb567) (o := .cells #[.slice A1_0 l1_0.length c1_0, .slice A1_1 l1_1.length c1_1] 25 (0, 0)) (by (with_reducible repeat (first | refine blk_drewN ?_ _ | refine blk_drew ?_ | refine blk_alloc ?_ _)); exact BK567.out)) : gb568 ≠ gb567)); clear BK566; clear BK567; clear HB; have BK566 := n0_; have BK567 := n1_; have HB := n2_; have BK568 := n3_; have GW568 := n4_; have GE568 := n5_; have NB566_568 := n6_; have NB568_566 := n7_; have NB567_568 := n8_; have NB568_567 := n9_; clear n0_ n1_ n2_ n3_ n4_ n5_ n6_ n7_ n8_ n9_; clear hb hbox hg; have hnb7 := NB566_567.out; have hnc7 := NB567_566.out; have hnb8 := NB566_568.out; have hnc8 := NB568_566.out; have hcz9_0 : w6.cell? ⟨gb566, 0, none⟩ = some (.slice A0_0 l0_0.length c0_0) := (blk_cell BK566.out 0).trans rfl; have hcz9_1 : w6.cell? ⟨gb566, 1, none⟩ = some (.slice A0_1 l0_1.length c0_1) := (blk_cell BK566.out 1).trans rfl; have hfz9_0 := blk_frozen BK566.out 0; have hfz9_1 := blk_frozen BK566.out 1; have hnb10 := NB567_568.out; have hnc10 := NB568_567.out; have hcz11_0 : w6.cell? ⟨gb567, 0, none⟩ = some (.slice A1_0 l1_0.length c1_0) := (blk_cell BK567.out 0).trans rfl; have hcz11_1 : w6.cell? ⟨gb567, 1, none⟩ = some (.slice A1_1 l1_1.length c1_1) := (blk_cell BK567.out 1).trans rfl; have hfz11_0 := blk_frozen BK567.out 0; have hfz11_1 := blk_frozen BK567.out 1) | ((with_reducible refine gate_callee (f := 23) rfl ?_); refine goesL_ (some 8) rfl rfl Tryd.func23 (by kernel_rfl) rfl #[.agg #[.slice A0_0 l0_0.length c0_0, .slice A0_1 l0_1.length c0_1], .agg #[.slice A1_0 l1_0.length c1_0, .slice A1_1 l1_1.length c1_1], .func (.func 24) #[] #[]] rfl (by (try simp only [List.map_toArray, List.map_cons, List.map_nil]); first | done | rfl | (simp only [List.length_drop, List.length_take]; rfl)) ?_; (with_reducible refine (rat_joined__nat_Add.calls k _ _ l0_0 _ _ l0_1 _ _ l1_0 _ _ l1_1 t569 t572 t575 _ ?side1 ?side2 ?side3 ?side4 ?side5 ?side6 ?side7 ?side8 A3.out).mono ?_); (case side1 => repeat (first | exact (Kd.C_below HR0_0.out HB.out) | (with_reducible refine Kd.C_alloc ?_ _) | (with_reducible refine Kd.C_drewN ?_ _) | (with_reducible refine Kd.C_drew ?_))); (case side2 => exact HC0_0.out); (case side3 => repeat (first | exact (Kd.C_below HR0_1.out HB.out) | (with_reducible refine Kd.C_alloc ?_ _) | (with_reducible refine Kd.C_drewN ?_ _) | (with_reducible refine Kd.C_drew ?_))); (case side4 => exact HC0_1.out); (case side5 => repeat (first | exact (Kd.C_below HR1_0.out HB.out) | (with_reducible refine Kd.C_alloc ?_ _) | (with_reducible refine Kd.C_drewN ?_ _) | (with_reducible refine Kd.C_drew ?_))); (case side6 => exact HC1_0.out); (case side7 => repeat (first | exact (Kd.C_below HR1_1.out HB.out) | (with_reducible refine Kd.C_alloc ?_ _) | (with_reducible refine Kd.C_drewN ?_ _) | (with_reducible refine Kd.C_drew ?_))); (case side8 => exact HC1_1.out); rintro e w12 ⟨v570, v573, rfl, ho0, ho1, hb⟩; refine ⟨_, rfl, ?_⟩; have n0_ := Aside0.mk (Kd.R_lower ho0 (below_size (by repeat (first | (with_reducible first | exact HB.out | apply below_alloc | apply pw_below_drewN | apply below_drew1 | refine below_set ?_ GE566.out | refine below_set ?_ GE567.out | refine below_set ?_ GE568.out) | exact HB.out)))); have n1_ := Aside0.mk (Kd.R_lower ho1 (below_size (by repeat (first | (with_reducible first | exact HB.out | apply below_alloc | apply pw_below_drewN | apply below_drew1 | refine below_set ?_ GE566.out | refine below_set ?_ GE567.out | refine below_set ?_ GE568.out) | exact HB.out)))); have n2_ := Aside0.mk (blk_below (g := gb566) (o := .cells #[.slice A0_0 l0_0.length c0_0, .slice A0_1 l0_1.length c0_1] 25 (0, 0)) (by (with_reducible repeat (first | refine blk_drewN ?_ _ | refine blk_drew ?_ | refine blk_alloc ?_ _)); exact BK566.out) hb); have n3_ := Aside0.mk (blk_below (g := gb567) (o := .cells #[.slice A1_0 l1_0.length c1_0, .slice A1_1 l1_1.length c1_1] 25 (0, 0)) (by (with_reducible repeat (first | refine blk_drewN ?_ _ | refine blk_drew ?_ | refine blk_alloc ?_ _)); exact BK567.out) hb); have n4_ := Aside0.mk (blk_below (g := gb568) (o := .cells #[.slice none 0 0, .slice none 0 0] 25 (0, 0)) (by (with_reducible repeat (first | refine blk_drewN ?_ _ | refine blk_drew ?_ | refine blk_alloc ?_ _)); exact BK568.out) hb); have n5_ := Aside0.mk (below_step (by repeat (first | (with_reducible first | exact HB.out | apply below_alloc | apply pw_below_drewN | apply below_drew1 | refine below_set ?_ GE566.out | refine below_set ?_ GE567.out | refine below_set ?_ GE568.out) | exact HB.out)) hb); clear BK566; clear BK567; clear BK568; clear HB; have HO571 := n0_; have HO574 := n1_; have BK566 := n2_; have BK567 := n3_; have BK568 := n4_; have HB := n5_; clear n0_ n1_ n2_ n3_ n4_ n5_; (try clear hb); (try clear hb2); (try clear hk); (try clear hi); (try clear ho0); (try clear ho1); obtain ⟨Ao13, co13, eo13⟩ := Kd.R_slice HO571.out; subst eo13; have hcz14_0 : w12.cell? ⟨gb568, 0, none⟩ = some (.slice none 0 0) := (blk_cell BK568.out 0).trans rfl; have hcz14_1 : w12.cell? ⟨gb568, 1, none⟩ = some (.slice none 0 0) := (blk_cell BK568.out 1).trans rfl; have hfz14_0 := blk_frozen BK568.out 0; have hfz14_1 := blk_frozen BK568.out 1; obtain ⟨Ao15, co15, eo15⟩ := Kd.R_slice HO574.out; subst eo15))
  refine bodyPost_ret (results_ct rfl _ _ gb568 25 #[.slice Ao13 t569.length co13, .slice Ao15 t572.length co15] (0, 0) _ rfl (by (with_reducible repeat (first | refine blk_drewN ?_ _ | refine blk_drew ?_ | refine blk_alloc ?_ _)); refine blk_put (cs := #[.slice Ao13 t569.length co13, .slice none 0 0]) ?_ 1 _ rfl; (with_reducible repeat (first | refine blk_drewN ?_ _ | refine blk_drew ?_ | refine blk_alloc ?_ _)); refine blk_put (cs := #[.slice none 0 0, .slice none 0 0]) ?_ 0 _ rfl; (with_reducible repeat (first | refine blk_drewN ?_ _ | refine blk_drew ?_ | refine blk_alloc ?_ _)); exact BK568.out) Tryd.underlying25 rfl (by kernel_rfl)) rfl ?_
  exact ⟨_, _, by first | rfl | (simp [errW_none, errW_some] <;> rfl) | (simp [*, errW_none, errW_some] <;> rfl), by (with_reducible repeat (first | apply Kd.R_alloc | apply Kd.R_drewN | apply Kd.R_drew)); exact Kd.R_mono (Kd.R_far (p := ⟨gb568, 1, none⟩) (Kd.R_far (p := ⟨gb568, 0, none⟩) (Kd.R_types HO571.out BK568.out (by decide)) (fun _ hk => hk.2) (.slice Ao13 t569.length co13)) (fun _ hk => hk.2) (.slice Ao15 t572.length co15)) (fun _ hk => hk.1), by (with_reducible repeat (first | apply Kd.R_alloc | apply Kd.R_drewN | apply Kd.R_drew)); exact Kd.R_mono (Kd.R_far (p := ⟨gb568, 1, none⟩) (Kd.R_far (p := ⟨gb568, 0, none⟩) (Kd.R_types HO574.out BK568.out (by decide)) (fun _ hk => hk.2) (.slice Ao13 t569.length co13)) (fun _ hk => hk.2) (.slice Ao15 t572.length co15)) (fun _ hk => hk.1), by repeat (first | (with_reducible first | exact HB.out | apply below_alloc | apply pw_below_drewN | apply below_drew1 | refine below_set ?_ GE566.out | refine below_set ?_ GE567.out | refine below_set ?_ GE568.out) | exact HB.out)⟩

/-! ### samphirelaw04_ApproxTwice: function 3 -/
def samphirelaw04_ApproxTwice.j0 : Nat → Bool → List Int → List Int → Option (Bool)
  | 0, _, _, _ => none
  | k + 1, x23, x577000, x577001 => if x23 = true then ((samphirelaw04_awake.f k).bind fun t578 => (some t578)) else ((rat_Add.f k x577000 x577001 x577000 x577001).bind fun bt579 => ((approx_Float.f k x577000 x577001).bind fun bt587 => ((approx_Float.f k bt579.1 bt579.2.1).bind fun bt589 => (if bt579.2.2 = 0 then (if bt587.2 = 0 then (if bt589.2 = 0 then (if (floatBits .mul .f64 4611686018427387904 bt587.1).isSome = true then (if (FloatKind.f64.format.order bt589.1 ((floatBits .mul .f64 4611686018427387904 bt587.1).getD 0) == some Ordering.eq) = true then ((samphirelaw04_awake.f k).bind fun t591 => (some t591)) else (none)) else (none)) else (none)) else (none)) else (none)))))
def samphirelaw04_ApproxTwice.f (k : Nat) (l0_0 : List Int) (l0_1 : List Int) : Option (Bool) := if (l0_0.length : Int) > 8 then (samphirelaw04_ApproxTwice.j0 k true l0_0 l0_1) else (if (l0_1.length : Int) > 8 then (samphirelaw04_ApproxTwice.j0 k true l0_0 l0_1) else ((rat_Right.f k l0_0 l0_1).bind fun t577 => (samphirelaw04_ApproxTwice.j0 k (!t577) l0_0 l0_1)))
theorem samphirelaw04_ApproxTwice.mono_l : ∀ k, (∀ y0 y1 y2, LeO (samphirelaw04_ApproxTwice.j0 k y0 y1 y2) (samphirelaw04_ApproxTwice.j0 (k + 1) y0 y1 y2))
  | 0 => fun _ _ _ r h => by simp [samphirelaw04_ApproxTwice.j0] at h
  | k + 1 => by
    have ih0 := samphirelaw04_ApproxTwice.mono_l k
    · intro y0 y1 y2
      unfold samphirelaw04_ApproxTwice.j0
      repeat' first
      | (with_reducible exact ih0 _ _ _)
      | (with_reducible exact approx_Float.mono _ _ _)
      | (with_reducible exact rat_Add.mono _ _ _ _ _)
      | (with_reducible exact rat_Right.mono _ _ _)
      | (with_reducible exact samphirelaw04_awake.mono _)
      | (with_reducible exact LeO.refl _)
      | (with_reducible exact LeO.none _)
      | (with_reducible refine LeO.ite ?_ ?_)
      | (with_reducible refine LeO.bind ?_ (fun _ => ?_))
      | exact ih0 _ _ _
      | exact approx_Float.mono _ _ _
      | exact rat_Add.mono _ _ _ _ _
      | exact rat_Right.mono _ _ _
      | exact samphirelaw04_awake.mono _
      | exact LeO.none _
      | refine LeO.ite ?_ ?_
      | refine LeO.bind ?_ (fun _ => ?_)
theorem samphirelaw04_ApproxTwice.mono : ∀ a0 a1 k, LeO (samphirelaw04_ApproxTwice.f k a0 a1) (samphirelaw04_ApproxTwice.f (k + 1) a0 a1) := by
  intro a0 a1 k
  have ih0 := samphirelaw04_ApproxTwice.mono_l k
  unfold samphirelaw04_ApproxTwice.f
  repeat' first
      | (with_reducible exact ih0 _ _ _)
      | (with_reducible exact approx_Float.mono _ _ _)
      | (with_reducible exact rat_Add.mono _ _ _ _ _)
      | (with_reducible exact rat_Right.mono _ _ _)
      | (with_reducible exact samphirelaw04_awake.mono _)
      | (with_reducible exact LeO.refl _)
      | (with_reducible exact LeO.none _)
      | (with_reducible refine LeO.ite ?_ ?_)
      | (with_reducible refine LeO.bind ?_ (fun _ => ?_))
      | exact ih0 _ _ _
      | exact approx_Float.mono _ _ _
      | exact rat_Add.mono _ _ _ _ _
      | exact rat_Right.mono _ _ _
      | exact samphirelaw04_awake.mono _
      | exact LeO.none _
      | refine LeO.ite ?_ ?_
      | refine LeO.bind ?_ (fun _ => ?_)
set_option maxHeartbeats 8000000 in
set_option maxRecDepth 100000 in
theorem samphirelaw04_ApproxTwice.calls (k : Nat) (A0_0 : Option Addr) (c0_0 : Nat) (l0_0 : List Int) (A0_1 : Option Addr) (c0_1 : Nat) (l0_1 : List Int) (r : Bool) (w : World) (hr0_0 : Kd.C (Kd.int .u32) w A0_0 l0_0.length l0_0) (hc0_0 : l0_0.length ≤ c0_0) (hr0_1 : Kd.C (Kd.int .u32) w A0_1 l0_1.length l0_1) (hc0_1 : l0_1.length ≤ c0_1) (h : samphirelaw04_ApproxTwice.f k l0_0 l0_1 = some r) :
    Calls Tryd.prog 3 #[.agg #[.slice A0_0 l0_0.length c0_0, .slice A0_1 l0_1.length c0_1]] w fun e w' => e = .returned (.bool r) ∧ Below w.heap.size w w' := by
  have hu25 := Tryd.underlying25
  have HR0_0 := Aside0.mk hr0_0
  have HC0_0 := Aside0.mk hc0_0
  clear hr0_0 hc0_0
  have HR0_1 := Aside0.mk hr0_1
  have HC0_1 := Aside0.mk hc0_1
  clear hr0_1 hc0_1
  have HB := Aside0.mk (Below.refl w.heap.size w)
  have H : (if (l0_0.length : Int) > 8 then (samphirelaw04_ApproxTwice.j0 k true l0_0 l0_1) else (if (l0_1.length : Int) > 8 then (samphirelaw04_ApproxTwice.j0 k true l0_0 l0_1) else ((rat_Right.f k l0_0 l0_1).bind fun t577 => (samphirelaw04_ApproxTwice.j0 k (!t577) l0_0 l0_1)))) = some r := h
  clear h
  have HC2 := Aside0.mk H
  clear H
  go_enter Tryd.func3, Tryd.ntmps3
  go_upto_region 1 with (first | ((with_reducible refine gate_dst (N := 1) rfl ?_); (try (refine gate_guard (by rfl) ?_; dsimp only)); refine box_event ?hg (N := 1) ?hd (cs := #[.slice A0_0 l0_0.length c0_0, .slice A0_1 l0_1.length c0_1]) (t := 25) ?hr ?_; (case hd => rfl); (case hg => rfl); (case hr => first | (go_simp; done) | (go_simp; rfl)); intro gb576 hg w3 hbox hb; have n0_ := Aside0.mk (below_step (by repeat (first | (with_reducible first | exact HB.out | apply below_alloc | apply pw_below_drewN | apply below_drew1) | exact HB.out)) hb); have n1_ := Aside0.mk (hbox); have n2_ := Aside0.mk ((by rw [hg]; exact (below_size (by repeat (first | (with_reducible first | exact HB.out | apply below_alloc | apply pw_below_drewN | apply below_drew1) | exact HB.out))) : w.heap.size ≤ gb576)); have n3_ := Aside0.mk ((by rw [hg]; exact (below_size (by repeat (first | (with_reducible first | exact HB.out | apply below_alloc | apply pw_below_drewN | apply below_drew1) | exact HB.out))) : w.heap.size ≤ gb576)); clear HB; have HB := n0_; have BK576 := n1_; have GW576 := n2_; have GE576 := n3_; clear n0_ n1_ n2_ n3_; clear hb hbox hg))
  (try simp only [Act.put, List.setIfInBounds_toArray, List.set_cons_zero, List.set_cons_succ])
  go_cut [23] (fun v23 wc => ∃ (kq : Nat) (x23_1 : Bool), v23 = .bool x23_1 ∧ Aside0 (samphirelaw04_ApproxTwice.j0 kq x23_1 l0_0 l0_1 = some r) ∧ Aside0 (kq ≤ k) ∧ Aside0 (wc.heap[gb576]? = some (.cells #[(.slice A0_0 l0_0.length c0_0), (.slice A0_1 l0_1.length c0_1)] 25 (0, 0))) ∧ Aside0 (Below w.heap.size w wc))
  case first =>
    have H := HC2.out
    clear HC2
    by_cases c4 : (l0_0.length : Int) > 8
    · rw [if_pos c4] at H
      have c4b0 : decide (8 < (l0_0.length : Int)) = true := decide_eq_true c4
      have c4b1 : decide (8 < l0_0.length) = true := decide_eq_true (by omega)
      clear c4
      (first | rw [c4b0] | (simp only [i64_w, i32_w]; rw [c4b0]) | skip)
      have H' := Aside0.mk H
      clear H
      have hcz5_0 : w3.cell? ⟨gb576, 0, none⟩ = some (.slice A0_0 l0_0.length c0_0) := (blk_cell BK576.out 0).trans rfl
      have hcz5_1 : w3.cell? ⟨gb576, 1, none⟩ = some (.slice A0_1 l0_1.length c0_1) := (blk_cell BK576.out 1).trans rfl
      have hfz5_0 := blk_frozen BK576.out 0
      have hfz5_1 := blk_frozen BK576.out 1
      go_wp2
      go_meet
      case rel => exact ⟨_, (true), (by first | rfl | (simp; done) | (simp [*]; done)), H', ⟨by first | omega | exact Nat.le_refl _⟩, ⟨by (with_reducible repeat (first | refine blk_drewN ?_ _ | refine blk_drew ?_ | refine blk_alloc ?_ _)); exact BK576.out⟩, ⟨by repeat (first | (with_reducible first | exact HB.out | apply below_alloc | apply pw_below_drewN | apply below_drew1 | refine below_set ?_ GE576.out) | exact HB.out)⟩⟩
    · rw [if_neg c4] at H
      have c4b0 : decide (8 < (l0_0.length : Int)) = false := decide_eq_false c4
      have c4b1 : decide (8 < l0_0.length) = false := decide_eq_false (by omega)
      clear c4
      (first | rw [c4b0] | (simp only [i64_w, i32_w]; rw [c4b0]) | skip)
      by_cases c6 : (l0_1.length : Int) > 8
      · rw [if_pos c6] at H
        have c6b0 : decide (8 < (l0_1.length : Int)) = true := decide_eq_true c6
        have c6b1 : decide (8 < l0_1.length) = true := decide_eq_true (by omega)
        clear c6
        have H' := Aside0.mk H
        clear H
        have hcz7_0 : w3.cell? ⟨gb576, 0, none⟩ = some (.slice A0_0 l0_0.length c0_0) := (blk_cell BK576.out 0).trans rfl
        have hcz7_1 : w3.cell? ⟨gb576, 1, none⟩ = some (.slice A0_1 l0_1.length c0_1) := (blk_cell BK576.out 1).trans rfl
        have hfz7_0 := blk_frozen BK576.out 0
        have hfz7_1 := blk_frozen BK576.out 1
        go_wp2
        go_meet
        case rel => exact ⟨_, (true), (by first | rfl | (simp; done) | (simp [*]; done)), H', ⟨by first | omega | exact Nat.le_refl _⟩, ⟨by (with_reducible repeat (first | refine blk_drewN ?_ _ | refine blk_drew ?_ | refine blk_alloc ?_ _)); exact BK576.out⟩, ⟨by repeat (first | (with_reducible first | exact HB.out | apply below_alloc | apply pw_below_drewN | apply below_drew1 | refine below_set ?_ GE576.out) | exact HB.out)⟩⟩
      · rw [if_neg c6] at H
        have c6b0 : decide (8 < (l0_1.length : Int)) = false := decide_eq_false c6
        have c6b1 : decide (8 < l0_1.length) = false := decide_eq_false (by omega)
        clear c6
        replace H := Option.bind_eq_some_iff.mp H
        obtain ⟨t577, A80, H⟩ := H
        replace H : (samphirelaw04_ApproxTwice.j0 k (!t577) l0_0 l0_1) = some r := H
        have A8 := Aside0.mk A80
        clear A80
        have H' := Aside0.mk H
        clear H
        have hcz9_0 : w3.cell? ⟨gb576, 0, none⟩ = some (.slice A0_0 l0_0.length c0_0) := (blk_cell BK576.out 0).trans rfl
        have hcz9_1 : w3.cell? ⟨gb576, 1, none⟩ = some (.slice A0_1 l0_1.length c0_1) := (blk_cell BK576.out 1).trans rfl
        have hfz9_0 := blk_frozen BK576.out 0
        have hfz9_1 := blk_frozen BK576.out 1
        go_wp2_with (first | (go_at_call 7; (with_reducible refine (rat_Right.calls k _ _ l0_0 _ _ l0_1 t577 _ ?side1 ?side2 ?side3 ?side4 A8.out).mono ?_); (case side1 => repeat (first | exact (Kd.C_below HR0_0.out HB.out) | (with_reducible refine Kd.C_alloc ?_ _) | (with_reducible refine Kd.C_drewN ?_ _) | (with_reducible refine Kd.C_drew ?_))); (case side2 => exact HC0_0.out); (case side3 => repeat (first | exact (Kd.C_below HR0_1.out HB.out) | (with_reducible refine Kd.C_alloc ?_ _) | (with_reducible refine Kd.C_drewN ?_ _) | (with_reducible refine Kd.C_drew ?_))); (case side4 => exact HC0_1.out); rintro e w10 ⟨rfl, hb⟩; have n0_ := Aside0.mk (blk_below (g := gb576) (o := .cells #[.slice A0_0 l0_0.length c0_0, .slice A0_1 l0_1.length c0_1] 25 (0, 0)) (by (with_reducible repeat (first | refine blk_drewN ?_ _ | refine blk_drew ?_ | refine blk_alloc ?_ _)); exact BK576.out) hb); have n1_ := Aside0.mk (below_step (by repeat (first | (with_reducible first | exact HB.out | apply below_alloc | apply pw_below_drewN | apply below_drew1 | refine below_set ?_ GE576.out) | exact HB.out)) hb); clear BK576; clear HB; have BK576 := n0_; have HB := n1_; clear n0_ n1_; (try clear hb); (try clear hb2); (try clear hk); (try clear hi)))
        go_meet
        case rel => exact ⟨_, (!t577), (by first | rfl | (simp; done) | (simp [*]; done)), H', ⟨by first | omega | exact Nat.le_refl _⟩, ⟨by (with_reducible repeat (first | refine blk_drewN ?_ _ | refine blk_drew ?_ | refine blk_alloc ?_ _)); exact BK576.out⟩, ⟨by repeat (first | (with_reducible first | exact HB.out | apply below_alloc | apply pw_below_drewN | apply below_drew1 | refine below_set ?_ GE576.out) | exact HB.out)⟩⟩
  case rest =>
    clear HC2
    try clear p2
    try clear c3
    try clear c4
    try clear c4b0
    try clear c4b1
    try clear c6
    try clear c6b0
    try clear c6b1
    try clear hcz5_0
    try clear hcz5_1
    try clear hcz7_0
    try clear hcz7_1
    try clear hcz9_0
    try clear hcz9_1
    try clear hfz5_0
    try clear hfz5_1
    try clear hfz7_0
    try clear hfz7_1
    try clear hfz9_0
    try clear hfz9_1
    obtain ⟨kq, x23_1, rfl, HA, HJ1, BK576, HB⟩ := hcut
    cases kq with
    | zero => exact absurd HA.out (by simp [samphirelaw04_ApproxTwice.j0])
    | succ kj1 =>
      have H := HA.out
      clear HA
      simp only [samphirelaw04_ApproxTwice.j0] at H
      by_cases c11 : x23_1 = true
      · subst c11
        have H1 : ((samphirelaw04_awake.f kj1).bind fun t578 => (some t578)) = some r := by rw [if_pos rfl] at H; exact H
        clear H
        have H := H1
        clear H1
        replace H := Option.bind_eq_some_iff.mp H
        obtain ⟨t578, A120, H⟩ := H
        replace H : (some t578) = some r := H
        have A12 := Aside0.mk A120
        clear A120
        obtain rfl := Option.some.inj H
        go_wp2_with (first | ((with_reducible refine gate_callee (f := 8) rfl ?_); refine goesL_ (some 24) rfl rfl Tryd.func8 (by kernel_rfl) rfl #[] rfl (by (try simp only [List.map_toArray, List.map_cons, List.map_nil]); first | done | rfl | (simp only [List.length_drop, List.length_take]; rfl)) ?_; (with_reducible refine (samphirelaw04_awake.calls kj1  t578 _ A12.out).mono ?_); rintro e w13 ⟨rfl, hb⟩; refine ⟨_, rfl, ?_⟩; have n0_ := Aside0.mk (blk_below (g := gb576) (o := .cells #[.slice A0_0 l0_0.length c0_0, .slice A0_1 l0_1.length c0_1] 25 (0, 0)) (by (with_reducible repeat (first | refine blk_drewN ?_ _ | refine blk_drew ?_ | refine blk_alloc ?_ _)); exact BK576.out) hb); have n1_ := Aside0.mk (below_step (by repeat (first | (with_reducible first | exact HB.out | apply below_alloc | apply pw_below_drewN | apply below_drew1 | refine below_set ?_ GE576.out) | exact HB.out)) hb); clear BK576; clear HB; have BK576 := n0_; have HB := n1_; clear n0_ n1_; (try clear hb); (try clear hb2); (try clear hk); (try clear hi)))
        go_ret
        exact ⟨by first | rfl | (simp [errW_none, errW_some] <;> rfl) | (simp [*, errW_none, errW_some] <;> rfl), by repeat (first | (with_reducible first | exact HB.out | apply below_alloc | apply pw_below_drewN | apply below_drew1 | refine below_set ?_ GE576.out) | exact HB.out)⟩
      · replace c11 := Bool.eq_false_iff.mpr c11
        subst c11
        have H1 : ((rat_Add.f kj1 l0_0 l0_1 l0_0 l0_1).bind fun bt579 => ((approx_Float.f kj1 l0_0 l0_1).bind fun bt587 => ((approx_Float.f kj1 bt579.1 bt579.2.1).bind fun bt589 => (if bt579.2.2 = 0 then (if bt587.2 = 0 then (if bt589.2 = 0 then (if (floatBits .mul .f64 4611686018427387904 bt587.1).isSome = true then (if (FloatKind.f64.format.order bt589.1 ((floatBits .mul .f64 4611686018427387904 bt587.1).getD 0) == some Ordering.eq) = true then ((samphirelaw04_awake.f kj1).bind fun t591 => (some t591)) else (none)) else (none)) else (none)) else (none)) else (none))))) = some r := by rw [if_neg (show ¬ (false = true) by decide)] at H; exact H
        clear H
        have H := H1
        clear H1
        replace H := Option.bind_eq_some_iff.mp H
        obtain ⟨⟨t579, t582, t585⟩, A140, H⟩ := H
        replace H : ((approx_Float.f kj1 l0_0 l0_1).bind fun bt587 => ((approx_Float.f kj1 t579 t582).bind fun bt589 => (if t585 = 0 then (if bt587.2 = 0 then (if bt589.2 = 0 then (if (floatBits .mul .f64 4611686018427387904 bt587.1).isSome = true then (if (FloatKind.f64.format.order bt589.1 ((floatBits .mul .f64 4611686018427387904 bt587.1).getD 0) == some Ordering.eq) = true then ((samphirelaw04_awake.f kj1).bind fun t591 => (some t591)) else (none)) else (none)) else (none)) else (none)) else (none)))) = some r := H
        have A14 := Aside0.mk A140
        clear A140
        replace H := Option.bind_eq_some_iff.mp H
        obtain ⟨⟨t587, t588⟩, A150, H⟩ := H
        replace H : ((approx_Float.f kj1 t579 t582).bind fun bt589 => (if t585 = 0 then (if t588 = 0 then (if bt589.2 = 0 then (if (floatBits .mul .f64 4611686018427387904 t587).isSome = true then (if (FloatKind.f64.format.order bt589.1 ((floatBits .mul .f64 4611686018427387904 t587).getD 0) == some Ordering.eq) = true then ((samphirelaw04_awake.f kj1).bind fun t591 => (some t591)) else (none)) else (none)) else (none)) else (none)) else (none))) = some r := H
        have A15 := Aside0.mk A150
        clear A150
        replace H := Option.bind_eq_some_iff.mp H
        obtain ⟨⟨t589, t590⟩, A160, H⟩ := H
        replace H : (if t585 = 0 then (if t588 = 0 then (if t590 = 0 then (if (floatBits .mul .f64 4611686018427387904 t587).isSome = true then (if (FloatKind.f64.format.order t589 ((floatBits .mul .f64 4611686018427387904 t587).getD 0) == some Ordering.eq) = true then ((samphirelaw04_awake.f kj1).bind fun t591 => (some t591)) else (none)) else (none)) else (none)) else (none)) else (none)) = some r := H
        have A16 := Aside0.mk A160
        clear A160
        by_cases c17 : t585 = 0
        · rw [if_pos c17] at H
          have c17b0 : (t585 == 0) = true := beq_iff_eq.mpr c17
          have c17b1 : (t585 != 0) = false := bne_eq_false_iff_eq.mpr c17
          clear c17
          by_cases c18 : t588 = 0
          · rw [if_pos c18] at H
            have c18b0 : (t588 == 0) = true := beq_iff_eq.mpr c18
            have c18b1 : (t588 != 0) = false := bne_eq_false_iff_eq.mpr c18
            clear c18
            by_cases c19 : t590 = 0
            · rw [if_pos c19] at H
              have c19b0 : (t590 == 0) = true := beq_iff_eq.mpr c19
              have c19b1 : (t590 != 0) = false := bne_eq_false_iff_eq.mpr c19
              clear c19
              by_cases c20 : (floatBits .mul .f64 4611686018427387904 t587).isSome = true
              · rw [if_pos c20] at H
                have c20b0 := eq_true c20
                have c20b1 : decide ((floatBits .mul .f64 4611686018427387904 t587).isSome = true) = true := decide_eq_true c20
                have c20f := fun (W_ : World) (T_ : TypeId) => run_float_some (P := Tryd.prog) W_ T_ c20
                clear c20
                by_cases c21 : (FloatKind.f64.format.order t589 ((floatBits .mul .f64 4611686018427387904 t587).getD 0) == some Ordering.eq) = true
                · rw [if_pos c21] at H
                  have c21b0 : (FloatKind.f64.format.order t589 ((floatBits .mul .f64 4611686018427387904 t587).getD 0) == some Ordering.eq) = true := c21
                  (try (have c21b1 : decide (FloatKind.f64.format.order t589 ((floatBits .mul .f64 4611686018427387904 t587).getD 0) = some Ordering.eq) = true := by simpa using c21))
                  (try (have c21b2 : (FloatKind.f64.format.order t589 ((floatBits .mul .f64 4611686018427387904 t587).getD 0) == some Ordering.eq) = true := by simpa using c21))
                  clear c21
                  replace H := Option.bind_eq_some_iff.mp H
                  obtain ⟨t591, A220, H⟩ := H
                  replace H : (some t591) = some r := H
                  have A22 := Aside0.mk A220
                  clear A220
                  obtain rfl := Option.some.inj H
                  have hcz23_0 : wc.cell? ⟨gb576, 0, none⟩ = some (.slice A0_0 l0_0.length c0_0) := (blk_cell BK576.out 0).trans rfl
                  have hcz23_1 : wc.cell? ⟨gb576, 1, none⟩ = some (.slice A0_1 l0_1.length c0_1) := (blk_cell BK576.out 1).trans rfl
                  have hfz23_0 := blk_frozen BK576.out 0
                  have hfz23_1 := blk_frozen BK576.out 1
                  go_wp2_with (first | ((with_reducible refine gate_callee (f := 9) rfl ?_); refine goesL_ (some 28) rfl rfl Tryd.func9 (by kernel_rfl) rfl #[.agg #[.slice A0_0 l0_0.length c0_0, .slice A0_1 l0_1.length c0_1], .agg #[.slice A0_0 l0_0.length c0_0, .slice A0_1 l0_1.length c0_1]] rfl (by (try simp only [List.map_toArray, List.map_cons, List.map_nil]); first | done | rfl | (simp only [List.length_drop, List.length_take]; rfl)) ?_; (with_reducible refine (rat_Add.calls kj1 _ _ l0_0 _ _ l0_1 _ _ l0_0 _ _ l0_1 t579 t582 t585 _ ?side1 ?side2 ?side3 ?side4 ?side5 ?side6 ?side7 ?side8 A14.out).mono ?_); (case side1 => repeat (first | exact (Kd.C_below HR0_0.out HB.out) | (with_reducible refine Kd.C_alloc ?_ _) | (with_reducible refine Kd.C_drewN ?_ _) | (with_reducible refine Kd.C_drew ?_))); (case side2 => exact HC0_0.out); (case side3 => repeat (first | exact (Kd.C_below HR0_1.out HB.out) | (with_reducible refine Kd.C_alloc ?_ _) | (with_reducible refine Kd.C_drewN ?_ _) | (with_reducible refine Kd.C_drew ?_))); (case side4 => exact HC0_1.out); (case side5 => repeat (first | exact (Kd.C_below HR0_0.out HB.out) | (with_reducible refine Kd.C_alloc ?_ _) | (with_reducible refine Kd.C_drewN ?_ _) | (with_reducible refine Kd.C_drew ?_))); (case side6 => exact HC0_0.out); (case side7 => repeat (first | exact (Kd.C_below HR0_1.out HB.out) | (with_reducible refine Kd.C_alloc ?_ _) | (with_reducible refine Kd.C_drewN ?_ _) | (with_reducible refine Kd.C_drew ?_))); (case side8 => exact HC0_1.out); rintro e w24 ⟨v580, v583, rfl, ho0, ho1, hb⟩; refine ⟨_, rfl, ?_⟩; have n0_ := Aside0.mk (Kd.R_lower ho0 (below_size (by repeat (first | (with_reducible first | exact HB.out | apply below_alloc | apply pw_below_drewN | apply below_drew1 | refine below_set ?_ GE576.out) | exact HB.out)))); have n1_ := Aside0.mk (Kd.R_lower ho1 (below_size (by repeat (first | (with_reducible first | exact HB.out | apply below_alloc | apply pw_below_drewN | apply below_drew1 | refine below_set ?_ GE576.out) | exact HB.out)))); have n2_ := Aside0.mk (blk_below (g := gb576) (o := .cells #[.slice A0_0 l0_0.length c0_0, .slice A0_1 l0_1.length c0_1] 25 (0, 0)) (by (with_reducible repeat (first | refine blk_drewN ?_ _ | refine blk_drew ?_ | refine blk_alloc ?_ _)); exact BK576.out) hb); have n3_ := Aside0.mk (below_step (by repeat (first | (with_reducible first | exact HB.out | apply below_alloc | apply pw_below_drewN | apply below_drew1 | refine below_set ?_ GE576.out) | exact HB.out)) hb); clear BK576; clear HB; have HO581 := n0_; have HO584 := n1_; have BK576 := n2_; have HB := n3_; clear n0_ n1_ n2_ n3_; (try clear hb); (try clear hb2); (try clear hk); (try clear hi); (try clear ho0); (try clear ho1)) | ((with_reducible refine gate_dst (N := 3) rfl ?_); (try (refine gate_guard (by rfl) ?_; dsimp only)); refine box_event ?hg (N := 3) ?hd (cs := #[.slice none 0 0, .slice none 0 0]) (t := 25) ?hr ?_; (case hd => rfl); (case hg => rfl); (case hr => first | (go_simp; done) | (go_simp; rfl)); intro gb586 hg w25 hbox hb; have n0_ := Aside0.mk (Kd.R_below (by (with_reducible repeat (first | apply Kd.R_alloc | apply Kd.R_drewN | apply Kd.R_drew)); exact HO581.out) hb); have n1_ := Aside0.mk (Kd.R_below (by (with_reducible repeat (first | apply Kd.R_alloc | apply Kd.R_drewN | apply Kd.R_drew)); exact HO584.out) hb); have n2_ := Aside0.mk (blk_below (g := gb576) (o := .cells #[.slice A0_0 l0_0.length c0_0, .slice A0_1 l0_1.length c0_1] 25 (0, 0)) (by (with_reducible repeat (first | refine blk_drewN ?_ _ | refine blk_drew ?_ | refine blk_alloc ?_ _)); exact BK576.out) hb); have n3_ := Aside0.mk (below_step (by repeat (first | (with_reducible first | exact HB.out | apply below_alloc | apply pw_below_drewN | apply below_drew1 | refine below_set ?_ GE576.out) | exact HB.out)) hb); have n4_ := Aside0.mk (hbox); have n5_ := Aside0.mk ((by rw [hg]; exact (below_size (by repeat (first | (with_reducible first | exact HB.out | apply below_alloc | apply pw_below_drewN | apply below_drew1 | refine below_set ?_ GE576.out) | exact HB.out))) : w.heap.size ≤ gb586)); have n6_ := Aside0.mk ((by rw [hg]; exact (below_size (by repeat (first | (with_reducible first | exact HB.out | apply below_alloc | apply pw_below_drewN | apply below_drew1 | refine below_set ?_ GE576.out) | exact HB.out))) : w.heap.size ≤ gb586)); have n7_ := Aside0.mk ((by rw [hg]; exact Nat.ne_of_lt (blk_lt (g := gb576) (o := .cells #[.slice A0_0 l0_0.length c0_0, .slice A0_1 l0_1.length c0_1] 25 (0, 0)) (by (with_reducible repeat (first | refine blk_drewN ?_ _ | refine blk_drew ?_ | refine blk_alloc ?_ _)); exact BK576.out)) : gb576 ≠ gb586)); have n8_ := Aside0.mk ((by rw [hg]; exact Nat.ne_of_gt (blk_lt (g := gb576) (o := .cells #[.slice A0_0 l0_0.length c0_0, .slice A0_1 l0_1.length c0_1] 25 (0, 0)) (by (with_reducible repeat (first | refine blk_drewN ?_ _ | refine blk_drew ?_ | refine blk_alloc ?_ _)); exact BK576.out)) : gb586 ≠ gb576)); clear HO581; clear HO584; clear BK576; clear HB; have HO581 := n0_; have HO584 := n1_; have BK576 := n2_; have HB := n3_; have BK586 := n4_; have GW586 := n5_; have GE586 := n6_; have NB576_586 := n7_; have NB586_576 := n8_; clear n0_ n1_ n2_ n3_ n4_ n5_ n6_ n7_ n8_; clear hb hbox hg; obtain ⟨Ao26, co26, eo26⟩ := Kd.R_slice HO581.out; subst eo26; have hnb27 := NB586_576.out; have hnc27 := NB576_586.out; have hcz28_0 : w25.cell? ⟨gb586, 0, none⟩ = some (.slice none 0 0) := (blk_cell BK586.out 0).trans rfl; have hcz28_1 : w25.cell? ⟨gb586, 1, none⟩ = some (.slice none 0 0) := (blk_cell BK586.out 1).trans rfl; have hfz28_0 := blk_frozen BK586.out 0; have hfz28_1 := blk_frozen BK586.out 1; obtain ⟨Ao29, co29, eo29⟩ := Kd.R_slice HO584.out; subst eo29; have hcz30_0 : w25.cell? ⟨gb576, 0, none⟩ = some (.slice A0_0 l0_0.length c0_0) := (blk_cell BK576.out 0).trans rfl; have hcz30_1 : w25.cell? ⟨gb576, 1, none⟩ = some (.slice A0_1 l0_1.length c0_1) := (blk_cell BK576.out 1).trans rfl; have hfz30_0 := blk_frozen BK576.out 0; have hfz30_1 := blk_frozen BK576.out 1) | ((with_reducible refine gate_callee (f := 10) rfl ?_); refine goesL_ (some 33) rfl rfl Tryd.func10 (by kernel_rfl) rfl #[.agg #[.slice A0_0 l0_0.length c0_0, .slice A0_1 l0_1.length c0_1]] rfl (by (try simp only [List.map_toArray, List.map_cons, List.map_nil]); first | done | rfl | (simp only [List.length_drop, List.length_take]; rfl)) ?_; (with_reducible refine (approx_Float.calls kj1 _ _ l0_0 _ _ l0_1 t587 t588 _ ?side1 ?side2 ?side3 ?side4 A15.out).mono ?_); (case side1 => exact Kd.C_below HR0_0.out (by repeat (first | (with_reducible first | exact HB.out | apply below_alloc | apply pw_below_drewN | apply below_drew1 | refine below_set ?_ GE576.out | refine below_set ?_ GE586.out) | exact HB.out))); (case side2 => exact HC0_0.out); (case side3 => exact Kd.C_below HR0_1.out (by repeat (first | (with_reducible first | exact HB.out | apply below_alloc | apply pw_below_drewN | apply below_drew1 | refine below_set ?_ GE576.out | refine below_set ?_ GE586.out) | exact HB.out))); (case side4 => exact HC0_1.out); rintro e w31 ⟨rfl, hb⟩; refine ⟨_, rfl, ?_⟩; have n0_ := Aside0.mk (Kd.R_below (by (with_reducible repeat (first | apply Kd.R_alloc | apply Kd.R_drewN | apply Kd.R_drew)); exact (Kd.R_mono (Kd.R_far (p := ⟨gb586, 1, none⟩) (Kd.R_far (p := ⟨gb586, 0, none⟩) (Kd.R_types HO581.out BK586.out (by decide)) (fun _ hk => hk.2) (.slice Ao26 t579.length co26)) (fun _ hk => hk.2) (.slice Ao29 t582.length co29)) (fun _ h_ => h_.1))) hb); have n1_ := Aside0.mk (Kd.R_below (by (with_reducible repeat (first | apply Kd.R_alloc | apply Kd.R_drewN | apply Kd.R_drew)); exact (Kd.R_mono (Kd.R_far (p := ⟨gb586, 1, none⟩) (Kd.R_far (p := ⟨gb586, 0, none⟩) (Kd.R_types HO584.out BK586.out (by decide)) (fun _ hk => hk.2) (.slice Ao26 t579.length co26)) (fun _ hk => hk.2) (.slice Ao29 t582.length co29)) (fun _ h_ => h_.1))) hb); have n2_ := Aside0.mk (blk_below (g := gb576) (o := .cells #[.slice A0_0 l0_0.length c0_0, .slice A0_1 l0_1.length c0_1] 25 (0, 0)) (by (with_reducible repeat (first | refine blk_drewN ?_ _ | refine blk_drew ?_ | refine blk_alloc ?_ _)); refine blk_far ?_ NB576_586.out _; (with_reducible repeat (first | refine blk_drewN ?_ _ | refine blk_drew ?_ | refine blk_alloc ?_ _)); refine blk_far ?_ NB576_586.out _; (with_reducible repeat (first | refine blk_drewN ?_ _ | refine blk_drew ?_ | refine blk_alloc ?_ _)); exact BK576.out) hb); have n3_ := Aside0.mk (blk_below (g := gb586) (o := .cells #[.slice Ao26 t579.length co26, .slice Ao29 t582.length co29] 25 (0, 0)) (by (with_reducible repeat (first | refine blk_drewN ?_ _ | refine blk_drew ?_ | refine blk_alloc ?_ _)); refine blk_put (cs := #[.slice Ao26 t579.length co26, .slice none 0 0]) ?_ 1 _ rfl; (with_reducible repeat (first | refine blk_drewN ?_ _ | refine blk_drew ?_ | refine blk_alloc ?_ _)); refine blk_put (cs := #[.slice none 0 0, .slice none 0 0]) ?_ 0 _ rfl; (with_reducible repeat (first | refine blk_drewN ?_ _ | refine blk_drew ?_ | refine blk_alloc ?_ _)); exact BK586.out) hb); have n4_ := Aside0.mk (below_step (by repeat (first | (with_reducible first | exact HB.out | apply below_alloc | apply pw_below_drewN | apply below_drew1 | refine below_set ?_ GE576.out | refine below_set ?_ GE586.out) | exact HB.out)) hb); clear HO581; clear HO584; clear BK576; clear BK586; clear HB; have HO581 := n0_; have HO584 := n1_; have BK576 := n2_; have BK586 := n3_; have HB := n4_; clear n0_ n1_ n2_ n3_ n4_; (try clear hb); (try clear hb2); (try clear hk); (try clear hi); have hcz32_0 : w31.cell? ⟨gb586, 0, none⟩ = some (.slice Ao26 t579.length co26) := (blk_cell BK586.out 0).trans rfl; have hcz32_1 : w31.cell? ⟨gb586, 1, none⟩ = some (.slice Ao29 t582.length co29) := (blk_cell BK586.out 1).trans rfl; have hfz32_0 := blk_frozen BK586.out 0; have hfz32_1 := blk_frozen BK586.out 1) | ((with_reducible refine gate_callee (f := 10) rfl ?_); refine goesL_ (some 38) rfl rfl Tryd.func10 (by kernel_rfl) rfl #[.agg #[.slice Ao26 t579.length co26, .slice Ao29 t582.length co29]] rfl (by (try simp only [List.map_toArray, List.map_cons, List.map_nil]); first | done | rfl | (simp only [List.length_drop, List.length_take]; rfl)) ?_; (with_reducible refine (approx_Float.calls kj1 _ _ t579 _ _ t582 t589 t590 _ ?side1 ?side2 ?side3 ?side4 A16.out).mono ?_); (case side1 => repeat (first | exact (Kd.R_reads' HO581.out).2.2 | (with_reducible refine Kd.C_alloc ?_ _) | (with_reducible refine Kd.C_drewN ?_ _) | (with_reducible refine Kd.C_drew ?_))); (case side2 => exact (Kd.R_reads' HO581.out).2.1); (case side3 => repeat (first | exact (Kd.R_reads' HO584.out).2.2 | (with_reducible refine Kd.C_alloc ?_ _) | (with_reducible refine Kd.C_drewN ?_ _) | (with_reducible refine Kd.C_drew ?_))); (case side4 => exact (Kd.R_reads' HO584.out).2.1); rintro e w33 ⟨rfl, hb⟩; refine ⟨_, rfl, ?_⟩; have n0_ := Aside0.mk (Kd.R_below (by (with_reducible repeat (first | apply Kd.R_alloc | apply Kd.R_drewN | apply Kd.R_drew)); exact HO581.out) hb); have n1_ := Aside0.mk (Kd.R_below (by (with_reducible repeat (first | apply Kd.R_alloc | apply Kd.R_drewN | apply Kd.R_drew)); exact HO584.out) hb); have n2_ := Aside0.mk (blk_below (g := gb576) (o := .cells #[.slice A0_0 l0_0.length c0_0, .slice A0_1 l0_1.length c0_1] 25 (0, 0)) (by (with_reducible repeat (first | refine blk_drewN ?_ _ | refine blk_drew ?_ | refine blk_alloc ?_ _)); exact BK576.out) hb); have n3_ := Aside0.mk (blk_below (g := gb586) (o := .cells #[.slice Ao26 t579.length co26, .slice Ao29 t582.length co29] 25 (0, 0)) (by (with_reducible repeat (first | refine blk_drewN ?_ _ | refine blk_drew ?_ | refine blk_alloc ?_ _)); exact BK586.out) hb); have n4_ := Aside0.mk (below_step (by repeat (first | (with_reducible first | exact HB.out | apply below_alloc | apply pw_below_drewN | apply below_drew1 | refine below_set ?_ GE576.out | refine below_set ?_ GE586.out) | exact HB.out)) hb); clear HO581; clear HO584; clear BK576; clear BK586; clear HB; have HO581 := n0_; have HO584 := n1_; have BK576 := n2_; have BK586 := n3_; have HB := n4_; clear n0_ n1_ n2_ n3_ n4_; (try clear hb); (try clear hb2); (try clear hk); (try clear hi)) | (go_at_call 8; (with_reducible refine (samphirelaw04_awake.calls kj1  t591 _ A22.out).mono ?_); rintro e w34 ⟨rfl, hb⟩; have n0_ := Aside0.mk (Kd.R_below (by (with_reducible repeat (first | apply Kd.R_alloc | apply Kd.R_drewN | apply Kd.R_drew)); exact HO581.out) hb); have n1_ := Aside0.mk (Kd.R_below (by (with_reducible repeat (first | apply Kd.R_alloc | apply Kd.R_drewN | apply Kd.R_drew)); exact HO584.out) hb); have n2_ := Aside0.mk (blk_below (g := gb576) (o := .cells #[.slice A0_0 l0_0.length c0_0, .slice A0_1 l0_1.length c0_1] 25 (0, 0)) (by (with_reducible repeat (first | refine blk_drewN ?_ _ | refine blk_drew ?_ | refine blk_alloc ?_ _)); exact BK576.out) hb); have n3_ := Aside0.mk (blk_below (g := gb586) (o := .cells #[.slice Ao26 t579.length co26, .slice Ao29 t582.length co29] 25 (0, 0)) (by (with_reducible repeat (first | refine blk_drewN ?_ _ | refine blk_drew ?_ | refine blk_alloc ?_ _)); exact BK586.out) hb); have n4_ := Aside0.mk (below_step (by repeat (first | (with_reducible first | exact HB.out | apply below_alloc | apply pw_below_drewN | apply below_drew1 | refine below_set ?_ GE576.out | refine below_set ?_ GE586.out) | exact HB.out)) hb); clear HO581; clear HO584; clear BK576; clear BK586; clear HB; have HO581 := n0_; have HO584 := n1_; have BK576 := n2_; have BK586 := n3_; have HB := n4_; clear n0_ n1_ n2_ n3_ n4_; (try clear hb); (try clear hb2); (try clear hk); (try clear hi)))
                  go_ret
                  exact ⟨by first | rfl | (simp [errW_none, errW_some] <;> rfl) | (simp [*, errW_none, errW_some] <;> rfl), by repeat (first | (with_reducible first | exact HB.out | apply below_alloc | apply pw_below_drewN | apply below_drew1 | refine below_set ?_ GE576.out | refine below_set ?_ GE586.out) | exact HB.out)⟩
                · rw [if_neg c21] at H
                  exact absurd H (by simp)
              · rw [if_neg c20] at H
                exact absurd H (by simp)
            · rw [if_neg c19] at H
              exact absurd H (by simp)
          · rw [if_neg c18] at H
            exact absurd H (by simp)
        · rw [if_neg c17] at H
          exact absurd H (by simp)

end Go.Proofs.YtamhiecepipnjaaDoor.GApproxTwice
