-- Written by gprint (wip/gprint), this session's program over the kit's print. Not trusted: Lean checks it.
import Derived.Test.YtamhiecepipnjaaDoorGApproxRisesx0
import Derived.Test.YtamhiecepipnjaaDoorGApproxRisesx5
import Derived.Test.YtamhiecepipnjaaDoorGApproxRisesx7
import Derived.Test.YtamhiecepipnjaaDoorGApproxRisesx8
import Derived.Test.YtamhiecepipnjaaDoorGApproxRisesx9
namespace Go.Proofs.YtamhiecepipnjaaDoor.GApproxRises
open Go.RowKit Go.Proofs.YtamhiecepipnjaaDoorW.PrintWords Go.Proofs.YtamhiecepipnjaaDoorW.PrintLast Go.Proofs.YtamhiecepipnjaaDoorW.PrintMore
attribute [local go_sem] max2_int min2_int max_two min_two max_three min_three max_four min_four   -- for this text's walks alone
set_option linter.unusedVariables false
set_option linter.unusedSimpArgs false

/-! ### samphirelaw04_ApproxRises: function 5 -/
def samphirelaw04_ApproxRises.j0 : Nat → Bool → List Int → List Int → List Int → List Int → Option (Bool)
  | 0, _, _, _, _, _ => none
  | k + 1, x42, x542000, x542001, x543000, x543001 => if x42 = true then ((samphirelaw04_awake.f k).bind fun t545 => (some t545)) else ((rat_Cmp.f k x542000 x542001 x543000 x543001).bind fun bt546 => ((approx_Float.f k x542000 x542001).bind fun bt548 => ((approx_Float.f k x543000 x543001).bind fun bt550 => (if bt546.2 = 0 then (if bt548.2 = 0 then (if bt550.2 = 0 then (if bt546.1 > 0 then (if bt546.1 < 0 then (if (FloatKind.f64.format.order bt548.1 0 == some Ordering.gt || FloatKind.f64.format.order bt548.1 0 == some Ordering.eq) = true then ((math_Signbit.f bt548.1).bind fun t552 => (if t552 = true then (none) else ((samphirelaw04_awake.f k).bind fun t553 => (some t553)))) else (none)) else (if (FloatKind.f64.format.order bt548.1 bt550.1 == some Ordering.gt || FloatKind.f64.format.order bt548.1 bt550.1 == some Ordering.eq) = true then (if (FloatKind.f64.format.order bt548.1 0 == some Ordering.gt || FloatKind.f64.format.order bt548.1 0 == some Ordering.eq) = true then ((math_Signbit.f bt548.1).bind fun t554 => (if t554 = true then (none) else ((samphirelaw04_awake.f k).bind fun t555 => (some t555)))) else (none)) else (none))) else (if (FloatKind.f64.format.order bt548.1 bt550.1 == some Ordering.lt || FloatKind.f64.format.order bt548.1 bt550.1 == some Ordering.eq) = true then (if bt546.1 < 0 then (if (FloatKind.f64.format.order bt548.1 0 == some Ordering.gt || FloatKind.f64.format.order bt548.1 0 == some Ordering.eq) = true then ((math_Signbit.f bt548.1).bind fun t556 => (if t556 = true then (none) else ((samphirelaw04_awake.f k).bind fun t557 => (some t557)))) else (none)) else (if (FloatKind.f64.format.order bt548.1 bt550.1 == some Ordering.gt || FloatKind.f64.format.order bt548.1 bt550.1 == some Ordering.eq) = true then (if (FloatKind.f64.format.order bt548.1 0 == some Ordering.gt || FloatKind.f64.format.order bt548.1 0 == some Ordering.eq) = true then ((math_Signbit.f bt548.1).bind fun t558 => (if t558 = true then (none) else ((samphirelaw04_awake.f k).bind fun t559 => (some t559)))) else (none)) else (none))) else (none))) else (none)) else (none)) else (none)))))
def samphirelaw04_ApproxRises.f (k : Nat) (l0_0 : List Int) (l0_1 : List Int) (l1_0 : List Int) (l1_1 : List Int) : Option (Bool) := if (l0_0.length : Int) > 30 then (samphirelaw04_ApproxRises.j0 k true l0_0 l0_1 l1_0 l1_1) else (if (l0_1.length : Int) > 30 then (samphirelaw04_ApproxRises.j0 k true l0_0 l0_1 l1_0 l1_1) else (if (l1_0.length : Int) > 30 then (samphirelaw04_ApproxRises.j0 k true l0_0 l0_1 l1_0 l1_1) else (if (l1_1.length : Int) > 30 then (samphirelaw04_ApproxRises.j0 k true l0_0 l0_1 l1_0 l1_1) else ((rat_Right.f k l0_0 l0_1).bind fun t543 => (if t543 = true then ((rat_Right.f k l1_0 l1_1).bind fun t544 => (samphirelaw04_ApproxRises.j0 k (!t544) l0_0 l0_1 l1_0 l1_1)) else (samphirelaw04_ApproxRises.j0 k true l0_0 l0_1 l1_0 l1_1))))))
theorem samphirelaw04_ApproxRises.mono_l : ∀ k, (∀ y0 y1 y2 y3 y4, LeO (samphirelaw04_ApproxRises.j0 k y0 y1 y2 y3 y4) (samphirelaw04_ApproxRises.j0 (k + 1) y0 y1 y2 y3 y4))
  | 0 => fun _ _ _ _ _ r h => by simp [samphirelaw04_ApproxRises.j0] at h
  | k + 1 => by
    have ih0 := samphirelaw04_ApproxRises.mono_l k
    · intro y0 y1 y2 y3 y4
      unfold samphirelaw04_ApproxRises.j0
      repeat' first
      | (with_reducible exact ih0 _ _ _ _ _)
      | (with_reducible exact approx_Float.mono _ _ _)
      | (with_reducible exact rat_Cmp.mono _ _ _ _ _)
      | (with_reducible exact rat_Right.mono _ _ _)
      | (with_reducible exact samphirelaw04_awake.mono _)
      | (with_reducible exact LeO.refl _)
      | (with_reducible exact LeO.none _)
      | (with_reducible refine LeO.ite ?_ ?_)
      | (with_reducible refine LeO.bind ?_ (fun _ => ?_))
      | exact ih0 _ _ _ _ _
      | exact approx_Float.mono _ _ _
      | exact rat_Cmp.mono _ _ _ _ _
      | exact rat_Right.mono _ _ _
      | exact samphirelaw04_awake.mono _
      | exact LeO.none _
      | refine LeO.ite ?_ ?_
      | refine LeO.bind ?_ (fun _ => ?_)
theorem samphirelaw04_ApproxRises.mono : ∀ a0 a1 a2 a3 k, LeO (samphirelaw04_ApproxRises.f k a0 a1 a2 a3) (samphirelaw04_ApproxRises.f (k + 1) a0 a1 a2 a3) := by
  intro a0 a1 a2 a3 k
  have ih0 := samphirelaw04_ApproxRises.mono_l k
  unfold samphirelaw04_ApproxRises.f
  repeat' first
      | (with_reducible exact ih0 _ _ _ _ _)
      | (with_reducible exact approx_Float.mono _ _ _)
      | (with_reducible exact rat_Cmp.mono _ _ _ _ _)
      | (with_reducible exact rat_Right.mono _ _ _)
      | (with_reducible exact samphirelaw04_awake.mono _)
      | (with_reducible exact LeO.refl _)
      | (with_reducible exact LeO.none _)
      | (with_reducible refine LeO.ite ?_ ?_)
      | (with_reducible refine LeO.bind ?_ (fun _ => ?_))
      | exact ih0 _ _ _ _ _
      | exact approx_Float.mono _ _ _
      | exact rat_Cmp.mono _ _ _ _ _
      | exact rat_Right.mono _ _ _
      | exact samphirelaw04_awake.mono _
      | exact LeO.none _
      | refine LeO.ite ?_ ?_
      | refine LeO.bind ?_ (fun _ => ?_)
set_option maxHeartbeats 8000000 in
set_option maxRecDepth 100000 in
theorem samphirelaw04_ApproxRises.calls (k : Nat) (A0_0 : Option Addr) (c0_0 : Nat) (l0_0 : List Int) (A0_1 : Option Addr) (c0_1 : Nat) (l0_1 : List Int) (A1_0 : Option Addr) (c1_0 : Nat) (l1_0 : List Int) (A1_1 : Option Addr) (c1_1 : Nat) (l1_1 : List Int) (r : Bool) (w : World) (hr0_0 : Kd.C (Kd.int .u32) w A0_0 l0_0.length l0_0) (hc0_0 : l0_0.length ≤ c0_0) (hr0_1 : Kd.C (Kd.int .u32) w A0_1 l0_1.length l0_1) (hc0_1 : l0_1.length ≤ c0_1) (hr1_0 : Kd.C (Kd.int .u32) w A1_0 l1_0.length l1_0) (hc1_0 : l1_0.length ≤ c1_0) (hr1_1 : Kd.C (Kd.int .u32) w A1_1 l1_1.length l1_1) (hc1_1 : l1_1.length ≤ c1_1) (h : samphirelaw04_ApproxRises.f k l0_0 l0_1 l1_0 l1_1 = some r) :
    Calls Tryd.prog 5 #[.agg #[.slice A0_0 l0_0.length c0_0, .slice A0_1 l0_1.length c0_1], .agg #[.slice A1_0 l1_0.length c1_0, .slice A1_1 l1_1.length c1_1]] w fun e w' => e = .returned (.bool r) ∧ Below w.heap.size w w' := by
  have hu25 := Tryd.underlying25
  have HR0_0 := Aside0.mk hr0_0
  have HC0_0 := Aside0.mk hc0_0
  clear hr0_0 hc0_0
  have HR0_1 := Aside0.mk hr0_1
  have HC0_1 := Aside0.mk hc0_1
  clear hr0_1 hc0_1
  have HR1_0 := Aside0.mk hr1_0
  have HC1_0 := Aside0.mk hc1_0
  clear hr1_0 hc1_0
  have HR1_1 := Aside0.mk hr1_1
  have HC1_1 := Aside0.mk hc1_1
  clear hr1_1 hc1_1
  have HB := Aside0.mk (Below.refl w.heap.size w)
  have H : (if (l0_0.length : Int) > 30 then (samphirelaw04_ApproxRises.j0 k true l0_0 l0_1 l1_0 l1_1) else (if (l0_1.length : Int) > 30 then (samphirelaw04_ApproxRises.j0 k true l0_0 l0_1 l1_0 l1_1) else (if (l1_0.length : Int) > 30 then (samphirelaw04_ApproxRises.j0 k true l0_0 l0_1 l1_0 l1_1) else (if (l1_1.length : Int) > 30 then (samphirelaw04_ApproxRises.j0 k true l0_0 l0_1 l1_0 l1_1) else ((rat_Right.f k l0_0 l0_1).bind fun t543 => (if t543 = true then ((rat_Right.f k l1_0 l1_1).bind fun t544 => (samphirelaw04_ApproxRises.j0 k (!t544) l0_0 l0_1 l1_0 l1_1)) else (samphirelaw04_ApproxRises.j0 k true l0_0 l0_1 l1_0 l1_1))))))) = some r := h
  clear h
  have HC3 := Aside0.mk H
  clear H
  go_enter Tryd.func5, Tryd.ntmps5
  go_upto_region 1 with (first | ((with_reducible refine gate_dst (N := 2) rfl ?_); (try (refine gate_guard (by rfl) ?_; dsimp only)); refine box_event ?hg (N := 2) ?hd (cs := #[.slice A0_0 l0_0.length c0_0, .slice A0_1 l0_1.length c0_1]) (t := 25) ?hr ?_; (case hd => rfl); (case hg => rfl); (case hr => first | (go_simp; done) | (go_simp; rfl)); intro gb541 hg w4 hbox hb; have n0_ := Aside0.mk (below_step (by repeat (first | (with_reducible first | exact HB.out | apply below_alloc | apply pw_below_drewN | apply below_drew1) | exact HB.out)) hb); have n1_ := Aside0.mk (hbox); have n2_ := Aside0.mk ((by rw [hg]; exact (below_size (by repeat (first | (with_reducible first | exact HB.out | apply below_alloc | apply pw_below_drewN | apply below_drew1) | exact HB.out))) : w.heap.size ≤ gb541)); have n3_ := Aside0.mk ((by rw [hg]; exact (below_size (by repeat (first | (with_reducible first | exact HB.out | apply below_alloc | apply pw_below_drewN | apply below_drew1) | exact HB.out))) : w.heap.size ≤ gb541)); clear HB; have HB := n0_; have BK541 := n1_; have GW541 := n2_; have GE541 := n3_; clear n0_ n1_ n2_ n3_; clear hb hbox hg) | ((with_reducible refine gate_dst (N := 3) rfl ?_); (try (refine gate_guard (by rfl) ?_; dsimp only)); refine box_event ?hg (N := 3) ?hd (cs := #[.slice A1_0 l1_0.length c1_0, .slice A1_1 l1_1.length c1_1]) (t := 25) ?hr ?_; (case hd => rfl); (case hg => rfl); (case hr => first | (go_simp; done) | (go_simp; rfl)); intro gb542 hg w5 hbox hb; have n0_ := Aside0.mk (blk_below (g := gb541) (o := .cells #[.slice A0_0 l0_0.length c0_0, .slice A0_1 l0_1.length c0_1] 25 (0, 0)) (by (with_reducible repeat (first | refine blk_drewN ?_ _ | refine blk_drew ?_ | refine blk_alloc ?_ _)); exact BK541.out) hb); have n1_ := Aside0.mk (below_step (by repeat (first | (with_reducible first | exact HB.out | apply below_alloc | apply pw_below_drewN | apply below_drew1 | refine below_set ?_ GE541.out) | exact HB.out)) hb); have n2_ := Aside0.mk (hbox); have n3_ := Aside0.mk ((by rw [hg]; exact (below_size (by repeat (first | (with_reducible first | exact HB.out | apply below_alloc | apply pw_below_drewN | apply below_drew1 | refine below_set ?_ GE541.out) | exact HB.out))) : w.heap.size ≤ gb542)); have n4_ := Aside0.mk ((by rw [hg]; exact (below_size (by repeat (first | (with_reducible first | exact HB.out | apply below_alloc | apply pw_below_drewN | apply below_drew1 | refine below_set ?_ GE541.out) | exact HB.out))) : w.heap.size ≤ gb542)); have n5_ := Aside0.mk ((by rw [hg]; exact Nat.ne_of_lt (blk_lt (g := gb541) (o := .cells #[.slice A0_0 l0_0.length c0_0, .slice A0_1 l0_1.length c0_1] 25 (0, 0)) (by (with_reducible repeat (first | refine blk_drewN ?_ _ | refine blk_drew ?_ | refine blk_alloc ?_ _)); exact BK541.out)) : gb541 ≠ gb542)); have n6_ := Aside0.mk ((by rw [hg]; exact Nat.ne_of_gt (blk_lt (g := gb541) (o := .cells #[.slice A0_0 l0_0.length c0_0, .slice A0_1 l0_1.length c0_1] 25 (0, 0)) (by (with_reducible repeat (first | refine blk_drewN ?_ _ | refine blk_drew ?_ | refine blk_alloc ?_ _)); exact BK541.out)) : gb542 ≠ gb541)); clear BK541; clear HB; have BK541 := n0_; have HB := n1_; have BK542 := n2_; have GW542 := n3_; have GE542 := n4_; have NB541_542 := n5_; have NB542_541 := n6_; clear n0_ n1_ n2_ n3_ n4_ n5_ n6_; clear hb hbox hg))
  (try simp only [Act.put, List.setIfInBounds_toArray, List.set_cons_zero, List.set_cons_succ])
  go_cut [42] (fun v42 wc => ∃ (kq : Nat) (x42_2 : Bool), v42 = .bool x42_2 ∧ Aside0 (samphirelaw04_ApproxRises.j0 kq x42_2 l0_0 l0_1 l1_0 l1_1 = some r) ∧ Aside0 (kq ≤ k) ∧ Aside0 (wc.heap[gb541]? = some (.cells #[(.slice A0_0 l0_0.length c0_0), (.slice A0_1 l0_1.length c0_1)] 25 (0, 0))) ∧ Aside0 (wc.heap[gb542]? = some (.cells #[(.slice A1_0 l1_0.length c1_0), (.slice A1_1 l1_1.length c1_1)] 25 (0, 0))) ∧ Aside0 (Below w.heap.size w wc))
  case first =>
    have H := HC3.out
    clear HC3
    by_cases c6 : (l0_0.length : Int) > 30
    · rw [if_pos c6] at H
      have c6b0 : decide (30 < (l0_0.length : Int)) = true := decide_eq_true c6
      have c6b1 : decide (30 < l0_0.length) = true := decide_eq_true (by omega)
      clear c6
      (first | rw [c6b0] | (simp only [i64_w, i32_w]; rw [c6b0]) | skip)
      have H' := Aside0.mk H
      clear H
      have hnb7 := NB541_542.out
      have hnc7 := NB542_541.out
      have hcz8_0 : w5.cell? ⟨gb541, 0, none⟩ = some (.slice A0_0 l0_0.length c0_0) := (blk_cell BK541.out 0).trans rfl
      have hcz8_1 : w5.cell? ⟨gb541, 1, none⟩ = some (.slice A0_1 l0_1.length c0_1) := (blk_cell BK541.out 1).trans rfl
      have hfz8_0 := blk_frozen BK541.out 0
      have hfz8_1 := blk_frozen BK541.out 1
      go_wp2
      go_meet
      case rel => exact ⟨_, (true), (by first | rfl | (simp; done) | (simp [*]; done)), H', ⟨by first | omega | exact Nat.le_refl _⟩, ⟨by (with_reducible repeat (first | refine blk_drewN ?_ _ | refine blk_drew ?_ | refine blk_alloc ?_ _)); exact BK541.out⟩, ⟨by (with_reducible repeat (first | refine blk_drewN ?_ _ | refine blk_drew ?_ | refine blk_alloc ?_ _)); exact BK542.out⟩, ⟨by repeat (first | (with_reducible first | exact HB.out | apply below_alloc | apply pw_below_drewN | apply below_drew1 | refine below_set ?_ GE541.out | refine below_set ?_ GE542.out) | exact HB.out)⟩⟩
    · rw [if_neg c6] at H
      have c6b0 : decide (30 < (l0_0.length : Int)) = false := decide_eq_false c6
      have c6b1 : decide (30 < l0_0.length) = false := decide_eq_false (by omega)
      clear c6
      (first | rw [c6b0] | (simp only [i64_w, i32_w]; rw [c6b0]) | skip)
      by_cases c9 : (l0_1.length : Int) > 30
      · rw [if_pos c9] at H
        have c9b0 : decide (30 < (l0_1.length : Int)) = true := decide_eq_true c9
        have c9b1 : decide (30 < l0_1.length) = true := decide_eq_true (by omega)
        clear c9
        have H' := Aside0.mk H
        clear H
        have hnb10 := NB541_542.out
        have hnc10 := NB542_541.out
        have hcz11_0 : w5.cell? ⟨gb541, 0, none⟩ = some (.slice A0_0 l0_0.length c0_0) := (blk_cell BK541.out 0).trans rfl
        have hcz11_1 : w5.cell? ⟨gb541, 1, none⟩ = some (.slice A0_1 l0_1.length c0_1) := (blk_cell BK541.out 1).trans rfl
        have hfz11_0 := blk_frozen BK541.out 0
        have hfz11_1 := blk_frozen BK541.out 1
        go_wp2
        go_meet
        case rel => exact ⟨_, (true), (by first | rfl | (simp; done) | (simp [*]; done)), H', ⟨by first | omega | exact Nat.le_refl _⟩, ⟨by (with_reducible repeat (first | refine blk_drewN ?_ _ | refine blk_drew ?_ | refine blk_alloc ?_ _)); exact BK541.out⟩, ⟨by (with_reducible repeat (first | refine blk_drewN ?_ _ | refine blk_drew ?_ | refine blk_alloc ?_ _)); exact BK542.out⟩, ⟨by repeat (first | (with_reducible first | exact HB.out | apply below_alloc | apply pw_below_drewN | apply below_drew1 | refine below_set ?_ GE541.out | refine below_set ?_ GE542.out) | exact HB.out)⟩⟩
      · rw [if_neg c9] at H
        have c9b0 : decide (30 < (l0_1.length : Int)) = false := decide_eq_false c9
        have c9b1 : decide (30 < l0_1.length) = false := decide_eq_false (by omega)
        clear c9
        by_cases c12 : (l1_0.length : Int) > 30
        · rw [if_pos c12] at H
          have c12b0 : decide (30 < (l1_0.length : Int)) = true := decide_eq_true c12
          have c12b1 : decide (30 < l1_0.length) = true := decide_eq_true (by omega)
          clear c12
          have H' := Aside0.mk H
          clear H
          have hnb13 := NB541_542.out
          have hnc13 := NB542_541.out
          have hcz14_0 : w5.cell? ⟨gb541, 0, none⟩ = some (.slice A0_0 l0_0.length c0_0) := (blk_cell BK541.out 0).trans rfl
          have hcz14_1 : w5.cell? ⟨gb541, 1, none⟩ = some (.slice A0_1 l0_1.length c0_1) := (blk_cell BK541.out 1).trans rfl
          have hfz14_0 := blk_frozen BK541.out 0
          have hfz14_1 := blk_frozen BK541.out 1
          have hcz15_0 : w5.cell? ⟨gb542, 0, none⟩ = some (.slice A1_0 l1_0.length c1_0) := (blk_cell BK542.out 0).trans rfl
          have hcz15_1 : w5.cell? ⟨gb542, 1, none⟩ = some (.slice A1_1 l1_1.length c1_1) := (blk_cell BK542.out 1).trans rfl
          have hfz15_0 := blk_frozen BK542.out 0
          have hfz15_1 := blk_frozen BK542.out 1
          go_wp2
          go_meet
          case rel => exact ⟨_, (true), (by first | rfl | (simp; done) | (simp [*]; done)), H', ⟨by first | omega | exact Nat.le_refl _⟩, ⟨by (with_reducible repeat (first | refine blk_drewN ?_ _ | refine blk_drew ?_ | refine blk_alloc ?_ _)); exact BK541.out⟩, ⟨by (with_reducible repeat (first | refine blk_drewN ?_ _ | refine blk_drew ?_ | refine blk_alloc ?_ _)); exact BK542.out⟩, ⟨by repeat (first | (with_reducible first | exact HB.out | apply below_alloc | apply pw_below_drewN | apply below_drew1 | refine below_set ?_ GE541.out | refine below_set ?_ GE542.out) | exact HB.out)⟩⟩
        · rw [if_neg c12] at H
          have c12b0 : decide (30 < (l1_0.length : Int)) = false := decide_eq_false c12
          have c12b1 : decide (30 < l1_0.length) = false := decide_eq_false (by omega)
          clear c12
          by_cases c16 : (l1_1.length : Int) > 30
          · rw [if_pos c16] at H
            have c16b0 : decide (30 < (l1_1.length : Int)) = true := decide_eq_true c16
            have c16b1 : decide (30 < l1_1.length) = true := decide_eq_true (by omega)
            clear c16
            have H' := Aside0.mk H
            clear H
            have hnb17 := NB541_542.out
            have hnc17 := NB542_541.out
            have hcz18_0 : w5.cell? ⟨gb541, 0, none⟩ = some (.slice A0_0 l0_0.length c0_0) := (blk_cell BK541.out 0).trans rfl
            have hcz18_1 : w5.cell? ⟨gb541, 1, none⟩ = some (.slice A0_1 l0_1.length c0_1) := (blk_cell BK541.out 1).trans rfl
            have hfz18_0 := blk_frozen BK541.out 0
            have hfz18_1 := blk_frozen BK541.out 1
            have hcz19_0 : w5.cell? ⟨gb542, 0, none⟩ = some (.slice A1_0 l1_0.length c1_0) := (blk_cell BK542.out 0).trans rfl
            have hcz19_1 : w5.cell? ⟨gb542, 1, none⟩ = some (.slice A1_1 l1_1.length c1_1) := (blk_cell BK542.out 1).trans rfl
            have hfz19_0 := blk_frozen BK542.out 0
            have hfz19_1 := blk_frozen BK542.out 1
            go_wp2
            go_meet
            case rel => exact ⟨_, (true), (by first | rfl | (simp; done) | (simp [*]; done)), H', ⟨by first | omega | exact Nat.le_refl _⟩, ⟨by (with_reducible repeat (first | refine blk_drewN ?_ _ | refine blk_drew ?_ | refine blk_alloc ?_ _)); exact BK541.out⟩, ⟨by (with_reducible repeat (first | refine blk_drewN ?_ _ | refine blk_drew ?_ | refine blk_alloc ?_ _)); exact BK542.out⟩, ⟨by repeat (first | (with_reducible first | exact HB.out | apply below_alloc | apply pw_below_drewN | apply below_drew1 | refine below_set ?_ GE541.out | refine below_set ?_ GE542.out) | exact HB.out)⟩⟩
          · rw [if_neg c16] at H
            have c16b0 : decide (30 < (l1_1.length : Int)) = false := decide_eq_false c16
            have c16b1 : decide (30 < l1_1.length) = false := decide_eq_false (by omega)
            clear c16
            replace H := Option.bind_eq_some_iff.mp H
            obtain ⟨t543, A200, H⟩ := H
            replace H : (if t543 = true then ((rat_Right.f k l1_0 l1_1).bind fun t544 => (samphirelaw04_ApproxRises.j0 k (!t544) l0_0 l0_1 l1_0 l1_1)) else (samphirelaw04_ApproxRises.j0 k true l0_0 l0_1 l1_0 l1_1)) = some r := H
            have A20 := Aside0.mk A200
            clear A200
            by_cases c21 : t543 = true
            · subst c21
              have H1 : ((rat_Right.f k l1_0 l1_1).bind fun t544 => (samphirelaw04_ApproxRises.j0 k (!t544) l0_0 l0_1 l1_0 l1_1)) = some r := by rw [if_pos rfl] at H; exact H
              clear H
              have H := H1
              clear H1
              replace H := Option.bind_eq_some_iff.mp H
              obtain ⟨t544, A220, H⟩ := H
              replace H : (samphirelaw04_ApproxRises.j0 k (!t544) l0_0 l0_1 l1_0 l1_1) = some r := H
              have A22 := Aside0.mk A220
              clear A220
              have H' := Aside0.mk H
              clear H
              have hnb23 := NB541_542.out
              have hnc23 := NB542_541.out
              have hcz24_0 : w5.cell? ⟨gb541, 0, none⟩ = some (.slice A0_0 l0_0.length c0_0) := (blk_cell BK541.out 0).trans rfl
              have hcz24_1 : w5.cell? ⟨gb541, 1, none⟩ = some (.slice A0_1 l0_1.length c0_1) := (blk_cell BK541.out 1).trans rfl
              have hfz24_0 := blk_frozen BK541.out 0
              have hfz24_1 := blk_frozen BK541.out 1
              have hcz25_0 : w5.cell? ⟨gb542, 0, none⟩ = some (.slice A1_0 l1_0.length c1_0) := (blk_cell BK542.out 0).trans rfl
              have hcz25_1 : w5.cell? ⟨gb542, 1, none⟩ = some (.slice A1_1 l1_1.length c1_1) := (blk_cell BK542.out 1).trans rfl
              have hfz25_0 := blk_frozen BK542.out 0
              have hfz25_1 := blk_frozen BK542.out 1
              go_wp2_with (first | (go_at_call 7; (with_reducible refine (rat_Right.calls k _ _ l0_0 _ _ l0_1 true _ ?side1 ?side2 ?side3 ?side4 A20.out).mono ?_); (case side1 => repeat (first | exact (Kd.C_below HR0_0.out HB.out) | (with_reducible refine Kd.C_alloc ?_ _) | (with_reducible refine Kd.C_drewN ?_ _) | (with_reducible refine Kd.C_drew ?_))); (case side2 => exact HC0_0.out); (case side3 => repeat (first | exact (Kd.C_below HR0_1.out HB.out) | (with_reducible refine Kd.C_alloc ?_ _) | (with_reducible refine Kd.C_drewN ?_ _) | (with_reducible refine Kd.C_drew ?_))); (case side4 => exact HC0_1.out); rintro e w26 ⟨rfl, hb⟩; have n0_ := Aside0.mk (blk_below (g := gb541) (o := .cells #[.slice A0_0 l0_0.length c0_0, .slice A0_1 l0_1.length c0_1] 25 (0, 0)) (by (with_reducible repeat (first | refine blk_drewN ?_ _ | refine blk_drew ?_ | refine blk_alloc ?_ _)); exact BK541.out) hb); have n1_ := Aside0.mk (blk_below (g := gb542) (o := .cells #[.slice A1_0 l1_0.length c1_0, .slice A1_1 l1_1.length c1_1] 25 (0, 0)) (by (with_reducible repeat (first | refine blk_drewN ?_ _ | refine blk_drew ?_ | refine blk_alloc ?_ _)); exact BK542.out) hb); have n2_ := Aside0.mk (below_step (by repeat (first | (with_reducible first | exact HB.out | apply below_alloc | apply pw_below_drewN | apply below_drew1 | refine below_set ?_ GE541.out | refine below_set ?_ GE542.out) | exact HB.out)) hb); clear BK541; clear BK542; clear HB; have BK541 := n0_; have BK542 := n1_; have HB := n2_; clear n0_ n1_ n2_; (try clear hb); (try clear hb2); (try clear hk); (try clear hi); have hcz27_0 : w26.cell? ⟨gb542, 0, none⟩ = some (.slice A1_0 l1_0.length c1_0) := (blk_cell BK542.out 0).trans rfl; have hcz27_1 : w26.cell? ⟨gb542, 1, none⟩ = some (.slice A1_1 l1_1.length c1_1) := (blk_cell BK542.out 1).trans rfl; have hfz27_0 := blk_frozen BK542.out 0; have hfz27_1 := blk_frozen BK542.out 1) | (go_at_call 7; (with_reducible refine (rat_Right.calls k _ _ l1_0 _ _ l1_1 t544 _ ?side1 ?side2 ?side3 ?side4 A22.out).mono ?_); (case side1 => repeat (first | exact (Kd.C_below HR1_0.out HB.out) | (with_reducible refine Kd.C_alloc ?_ _) | (with_reducible refine Kd.C_drewN ?_ _) | (with_reducible refine Kd.C_drew ?_))); (case side2 => exact HC1_0.out); (case side3 => repeat (first | exact (Kd.C_below HR1_1.out HB.out) | (with_reducible refine Kd.C_alloc ?_ _) | (with_reducible refine Kd.C_drewN ?_ _) | (with_reducible refine Kd.C_drew ?_))); (case side4 => exact HC1_1.out); rintro e w28 ⟨rfl, hb⟩; have n0_ := Aside0.mk (blk_below (g := gb541) (o := .cells #[.slice A0_0 l0_0.length c0_0, .slice A0_1 l0_1.length c0_1] 25 (0, 0)) (by (with_reducible repeat (first | refine blk_drewN ?_ _ | refine blk_drew ?_ | refine blk_alloc ?_ _)); exact BK541.out) hb); have n1_ := Aside0.mk (blk_below (g := gb542) (o := .cells #[.slice A1_0 l1_0.length c1_0, .slice A1_1 l1_1.length c1_1] 25 (0, 0)) (by (with_reducible repeat (first | refine blk_drewN ?_ _ | refine blk_drew ?_ | refine blk_alloc ?_ _)); exact BK542.out) hb); have n2_ := Aside0.mk (below_step (by repeat (first | (with_reducible first | exact HB.out | apply below_alloc | apply pw_below_drewN | apply below_drew1 | refine below_set ?_ GE541.out | refine below_set ?_ GE542.out) | exact HB.out)) hb); clear BK541; clear BK542; clear HB; have BK541 := n0_; have BK542 := n1_; have HB := n2_; clear n0_ n1_ n2_; (try clear hb); (try clear hb2); (try clear hk); (try clear hi)))
              go_meet
              case rel => exact ⟨_, (!t544), (by first | rfl | (simp; done) | (simp [*]; done)), H', ⟨by first | omega | exact Nat.le_refl _⟩, ⟨by (with_reducible repeat (first | refine blk_drewN ?_ _ | refine blk_drew ?_ | refine blk_alloc ?_ _)); exact BK541.out⟩, ⟨by (with_reducible repeat (first | refine blk_drewN ?_ _ | refine blk_drew ?_ | refine blk_alloc ?_ _)); exact BK542.out⟩, ⟨by repeat (first | (with_reducible first | exact HB.out | apply below_alloc | apply pw_below_drewN | apply below_drew1 | refine below_set ?_ GE541.out | refine below_set ?_ GE542.out) | exact HB.out)⟩⟩
            · replace c21 := Bool.eq_false_iff.mpr c21
              subst c21
              have H1 : (samphirelaw04_ApproxRises.j0 k true l0_0 l0_1 l1_0 l1_1) = some r := by rw [if_neg (show ¬ (false = true) by decide)] at H; exact H
              clear H
              have H := H1
              clear H1
              have H' := Aside0.mk H
              clear H
              have hnb29 := NB541_542.out
              have hnc29 := NB542_541.out
              have hcz30_0 : w5.cell? ⟨gb541, 0, none⟩ = some (.slice A0_0 l0_0.length c0_0) := (blk_cell BK541.out 0).trans rfl
              have hcz30_1 : w5.cell? ⟨gb541, 1, none⟩ = some (.slice A0_1 l0_1.length c0_1) := (blk_cell BK541.out 1).trans rfl
              have hfz30_0 := blk_frozen BK541.out 0
              have hfz30_1 := blk_frozen BK541.out 1
              have hcz31_0 : w5.cell? ⟨gb542, 0, none⟩ = some (.slice A1_0 l1_0.length c1_0) := (blk_cell BK542.out 0).trans rfl
              have hcz31_1 : w5.cell? ⟨gb542, 1, none⟩ = some (.slice A1_1 l1_1.length c1_1) := (blk_cell BK542.out 1).trans rfl
              have hfz31_0 := blk_frozen BK542.out 0
              have hfz31_1 := blk_frozen BK542.out 1
              go_wp2_with (first | (go_at_call 7; (with_reducible refine (rat_Right.calls k _ _ l0_0 _ _ l0_1 false _ ?side1 ?side2 ?side3 ?side4 A20.out).mono ?_); (case side1 => repeat (first | exact (Kd.C_below HR0_0.out HB.out) | (with_reducible refine Kd.C_alloc ?_ _) | (with_reducible refine Kd.C_drewN ?_ _) | (with_reducible refine Kd.C_drew ?_))); (case side2 => exact HC0_0.out); (case side3 => repeat (first | exact (Kd.C_below HR0_1.out HB.out) | (with_reducible refine Kd.C_alloc ?_ _) | (with_reducible refine Kd.C_drewN ?_ _) | (with_reducible refine Kd.C_drew ?_))); (case side4 => exact HC0_1.out); rintro e w32 ⟨rfl, hb⟩; have n0_ := Aside0.mk (blk_below (g := gb541) (o := .cells #[.slice A0_0 l0_0.length c0_0, .slice A0_1 l0_1.length c0_1] 25 (0, 0)) (by (with_reducible repeat (first | refine blk_drewN ?_ _ | refine blk_drew ?_ | refine blk_alloc ?_ _)); exact BK541.out) hb); have n1_ := Aside0.mk (blk_below (g := gb542) (o := .cells #[.slice A1_0 l1_0.length c1_0, .slice A1_1 l1_1.length c1_1] 25 (0, 0)) (by (with_reducible repeat (first | refine blk_drewN ?_ _ | refine blk_drew ?_ | refine blk_alloc ?_ _)); exact BK542.out) hb); have n2_ := Aside0.mk (below_step (by repeat (first | (with_reducible first | exact HB.out | apply below_alloc | apply pw_below_drewN | apply below_drew1 | refine below_set ?_ GE541.out | refine below_set ?_ GE542.out) | exact HB.out)) hb); clear BK541; clear BK542; clear HB; have BK541 := n0_; have BK542 := n1_; have HB := n2_; clear n0_ n1_ n2_; (try clear hb); (try clear hb2); (try clear hk); (try clear hi)))
              go_meet
              case rel => exact ⟨_, (true), (by first | rfl | (simp; done) | (simp [*]; done)), H', ⟨by first | omega | exact Nat.le_refl _⟩, ⟨by (with_reducible repeat (first | refine blk_drewN ?_ _ | refine blk_drew ?_ | refine blk_alloc ?_ _)); exact BK541.out⟩, ⟨by (with_reducible repeat (first | refine blk_drewN ?_ _ | refine blk_drew ?_ | refine blk_alloc ?_ _)); exact BK542.out⟩, ⟨by repeat (first | (with_reducible first | exact HB.out | apply below_alloc | apply pw_below_drewN | apply below_drew1 | refine below_set ?_ GE541.out | refine below_set ?_ GE542.out) | exact HB.out)⟩⟩
  case rest =>
    clear HC3
    try clear c1
    try clear c2
    try clear p2
    try clear c5
    try clear c6
    try clear c6b0
    try clear c6b1
    try clear c7
    try clear c9
    try clear c9b0
    try clear c9b1
    try clear c10
    try clear c12
    try clear c12b0
    try clear c12b1
    try clear c13
    try clear c16
    try clear c16b0
    try clear c16b1
    try clear c17
    try clear c21
    try clear c23
    try clear c29
    try clear hcz11_0
    try clear hcz11_1
    try clear hcz14_0
    try clear hcz14_1
    try clear hcz15_0
    try clear hcz15_1
    try clear hcz18_0
    try clear hcz18_1
    try clear hcz19_0
    try clear hcz19_1
    try clear hcz24_0
    try clear hcz24_1
    try clear hcz25_0
    try clear hcz25_1
    try clear hcz27_0
    try clear hcz27_1
    try clear hcz30_0
    try clear hcz30_1
    try clear hcz31_0
    try clear hcz31_1
    try clear hcz8_0
    try clear hcz8_1
    try clear hfz11_0
    try clear hfz11_1
    try clear hfz14_0
    try clear hfz14_1
    try clear hfz15_0
    try clear hfz15_1
    try clear hfz18_0
    try clear hfz18_1
    try clear hfz19_0
    try clear hfz19_1
    try clear hfz24_0
    try clear hfz24_1
    try clear hfz25_0
    try clear hfz25_1
    try clear hfz27_0
    try clear hfz27_1
    try clear hfz30_0
    try clear hfz30_1
    try clear hfz31_0
    try clear hfz31_1
    try clear hfz8_0
    try clear hfz8_1
    obtain ⟨kq, x42_2, rfl, HA, HJ2, BK541, BK542, HB⟩ := hcut
    cases kq with
    | zero => exact absurd HA.out (by simp [samphirelaw04_ApproxRises.j0])
    | succ kj2 =>
      have H := HA.out
      clear HA
      simp only [samphirelaw04_ApproxRises.j0] at H
      by_cases c33 : x42_2 = true
      · subst c33
        have H1 : ((samphirelaw04_awake.f kj2).bind fun t545 => (some t545)) = some r := by rw [if_pos rfl] at H; exact H
        clear H
        have H := H1
        clear H1
        replace H := Option.bind_eq_some_iff.mp H
        obtain ⟨t545, A340, H⟩ := H
        replace H : (some t545) = some r := H
        have A34 := Aside0.mk A340
        clear A340
        obtain rfl := Option.some.inj H
        go_wp2_with (first | ((with_reducible refine gate_callee (f := 8) rfl ?_); refine goesL_ (some 43) rfl rfl Tryd.func8 (by kernel_rfl) rfl #[] rfl (by (try simp only [List.map_toArray, List.map_cons, List.map_nil]); first | done | rfl | (simp only [List.length_drop, List.length_take]; rfl)) ?_; (with_reducible refine (samphirelaw04_awake.calls kj2  t545 _ A34.out).mono ?_); rintro e w35 ⟨rfl, hb⟩; refine ⟨_, rfl, ?_⟩; have n0_ := Aside0.mk (blk_below (g := gb541) (o := .cells #[.slice A0_0 l0_0.length c0_0, .slice A0_1 l0_1.length c0_1] 25 (0, 0)) (by (with_reducible repeat (first | refine blk_drewN ?_ _ | refine blk_drew ?_ | refine blk_alloc ?_ _)); exact BK541.out) hb); have n1_ := Aside0.mk (blk_below (g := gb542) (o := .cells #[.slice A1_0 l1_0.length c1_0, .slice A1_1 l1_1.length c1_1] 25 (0, 0)) (by (with_reducible repeat (first | refine blk_drewN ?_ _ | refine blk_drew ?_ | refine blk_alloc ?_ _)); exact BK542.out) hb); have n2_ := Aside0.mk (below_step (by repeat (first | (with_reducible first | exact HB.out | apply below_alloc | apply pw_below_drewN | apply below_drew1 | refine below_set ?_ GE541.out | refine below_set ?_ GE542.out) | exact HB.out)) hb); clear BK541; clear BK542; clear HB; have BK541 := n0_; have BK542 := n1_; have HB := n2_; clear n0_ n1_ n2_; (try clear hb); (try clear hb2); (try clear hk); (try clear hi)))
        go_ret
        exact ⟨by first | rfl | (simp [errW_none, errW_some] <;> rfl) | (simp [*, errW_none, errW_some] <;> rfl), by repeat (first | (with_reducible first | exact HB.out | apply below_alloc | apply pw_below_drewN | apply below_drew1 | refine below_set ?_ GE541.out | refine below_set ?_ GE542.out) | exact HB.out)⟩
      · replace c33 := Bool.eq_false_iff.mpr c33
        subst c33
        have H1 : ((rat_Cmp.f kj2 l0_0 l0_1 l1_0 l1_1).bind fun bt546 => ((approx_Float.f kj2 l0_0 l0_1).bind fun bt548 => ((approx_Float.f kj2 l1_0 l1_1).bind fun bt550 => (if bt546.2 = 0 then (if bt548.2 = 0 then (if bt550.2 = 0 then (if bt546.1 > 0 then (if bt546.1 < 0 then (if (FloatKind.f64.format.order bt548.1 0 == some Ordering.gt || FloatKind.f64.format.order bt548.1 0 == some Ordering.eq) = true then ((math_Signbit.f bt548.1).bind fun t552 => (if t552 = true then (none) else ((samphirelaw04_awake.f kj2).bind fun t553 => (some t553)))) else (none)) else (if (FloatKind.f64.format.order bt548.1 bt550.1 == some Ordering.gt || FloatKind.f64.format.order bt548.1 bt550.1 == some Ordering.eq) = true then (if (FloatKind.f64.format.order bt548.1 0 == some Ordering.gt || FloatKind.f64.format.order bt548.1 0 == some Ordering.eq) = true then ((math_Signbit.f bt548.1).bind fun t554 => (if t554 = true then (none) else ((samphirelaw04_awake.f kj2).bind fun t555 => (some t555)))) else (none)) else (none))) else (if (FloatKind.f64.format.order bt548.1 bt550.1 == some Ordering.lt || FloatKind.f64.format.order bt548.1 bt550.1 == some Ordering.eq) = true then (if bt546.1 < 0 then (if (FloatKind.f64.format.order bt548.1 0 == some Ordering.gt || FloatKind.f64.format.order bt548.1 0 == some Ordering.eq) = true then ((math_Signbit.f bt548.1).bind fun t556 => (if t556 = true then (none) else ((samphirelaw04_awake.f kj2).bind fun t557 => (some t557)))) else (none)) else (if (FloatKind.f64.format.order bt548.1 bt550.1 == some Ordering.gt || FloatKind.f64.format.order bt548.1 bt550.1 == some Ordering.eq) = true then (if (FloatKind.f64.format.order bt548.1 0 == some Ordering.gt || FloatKind.f64.format.order bt548.1 0 == some Ordering.eq) = true then ((math_Signbit.f bt548.1).bind fun t558 => (if t558 = true then (none) else ((samphirelaw04_awake.f kj2).bind fun t559 => (some t559)))) else (none)) else (none))) else (none))) else (none)) else (none)) else (none))))) = some r := by rw [if_neg (show ¬ (false = true) by decide)] at H; exact H
        clear H
        have H := H1
        clear H1
        replace H := Option.bind_eq_some_iff.mp H
        obtain ⟨⟨t546, t547⟩, A360, H⟩ := H
        replace H : ((approx_Float.f kj2 l0_0 l0_1).bind fun bt548 => ((approx_Float.f kj2 l1_0 l1_1).bind fun bt550 => (if t547 = 0 then (if bt548.2 = 0 then (if bt550.2 = 0 then (if t546 > 0 then (if t546 < 0 then (if (FloatKind.f64.format.order bt548.1 0 == some Ordering.gt || FloatKind.f64.format.order bt548.1 0 == some Ordering.eq) = true then ((math_Signbit.f bt548.1).bind fun t552 => (if t552 = true then (none) else ((samphirelaw04_awake.f kj2).bind fun t553 => (some t553)))) else (none)) else (if (FloatKind.f64.format.order bt548.1 bt550.1 == some Ordering.gt || FloatKind.f64.format.order bt548.1 bt550.1 == some Ordering.eq) = true then (if (FloatKind.f64.format.order bt548.1 0 == some Ordering.gt || FloatKind.f64.format.order bt548.1 0 == some Ordering.eq) = true then ((math_Signbit.f bt548.1).bind fun t554 => (if t554 = true then (none) else ((samphirelaw04_awake.f kj2).bind fun t555 => (some t555)))) else (none)) else (none))) else (if (FloatKind.f64.format.order bt548.1 bt550.1 == some Ordering.lt || FloatKind.f64.format.order bt548.1 bt550.1 == some Ordering.eq) = true then (if t546 < 0 then (if (FloatKind.f64.format.order bt548.1 0 == some Ordering.gt || FloatKind.f64.format.order bt548.1 0 == some Ordering.eq) = true then ((math_Signbit.f bt548.1).bind fun t556 => (if t556 = true then (none) else ((samphirelaw04_awake.f kj2).bind fun t557 => (some t557)))) else (none)) else (if (FloatKind.f64.format.order bt548.1 bt550.1 == some Ordering.gt || FloatKind.f64.format.order bt548.1 bt550.1 == some Ordering.eq) = true then (if (FloatKind.f64.format.order bt548.1 0 == some Ordering.gt || FloatKind.f64.format.order bt548.1 0 == some Ordering.eq) = true then ((math_Signbit.f bt548.1).bind fun t558 => (if t558 = true then (none) else ((samphirelaw04_awake.f kj2).bind fun t559 => (some t559)))) else (none)) else (none))) else (none))) else (none)) else (none)) else (none)))) = some r := H
        have A36 := Aside0.mk A360
        clear A360
        replace H := Option.bind_eq_some_iff.mp H
        obtain ⟨⟨t548, t549⟩, A370, H⟩ := H
        replace H : ((approx_Float.f kj2 l1_0 l1_1).bind fun bt550 => (if t547 = 0 then (if t549 = 0 then (if bt550.2 = 0 then (if t546 > 0 then (if t546 < 0 then (if (FloatKind.f64.format.order t548 0 == some Ordering.gt || FloatKind.f64.format.order t548 0 == some Ordering.eq) = true then ((math_Signbit.f t548).bind fun t552 => (if t552 = true then (none) else ((samphirelaw04_awake.f kj2).bind fun t553 => (some t553)))) else (none)) else (if (FloatKind.f64.format.order t548 bt550.1 == some Ordering.gt || FloatKind.f64.format.order t548 bt550.1 == some Ordering.eq) = true then (if (FloatKind.f64.format.order t548 0 == some Ordering.gt || FloatKind.f64.format.order t548 0 == some Ordering.eq) = true then ((math_Signbit.f t548).bind fun t554 => (if t554 = true then (none) else ((samphirelaw04_awake.f kj2).bind fun t555 => (some t555)))) else (none)) else (none))) else (if (FloatKind.f64.format.order t548 bt550.1 == some Ordering.lt || FloatKind.f64.format.order t548 bt550.1 == some Ordering.eq) = true then (if t546 < 0 then (if (FloatKind.f64.format.order t548 0 == some Ordering.gt || FloatKind.f64.format.order t548 0 == some Ordering.eq) = true then ((math_Signbit.f t548).bind fun t556 => (if t556 = true then (none) else ((samphirelaw04_awake.f kj2).bind fun t557 => (some t557)))) else (none)) else (if (FloatKind.f64.format.order t548 bt550.1 == some Ordering.gt || FloatKind.f64.format.order t548 bt550.1 == some Ordering.eq) = true then (if (FloatKind.f64.format.order t548 0 == some Ordering.gt || FloatKind.f64.format.order t548 0 == some Ordering.eq) = true then ((math_Signbit.f t548).bind fun t558 => (if t558 = true then (none) else ((samphirelaw04_awake.f kj2).bind fun t559 => (some t559)))) else (none)) else (none))) else (none))) else (none)) else (none)) else (none))) = some r := H
        have A37 := Aside0.mk A370
        clear A370
        replace H := Option.bind_eq_some_iff.mp H
        obtain ⟨⟨t550, t551⟩, A380, H⟩ := H
        replace H : (if t547 = 0 then (if t549 = 0 then (if t551 = 0 then (if t546 > 0 then (if t546 < 0 then (if (FloatKind.f64.format.order t548 0 == some Ordering.gt || FloatKind.f64.format.order t548 0 == some Ordering.eq) = true then ((math_Signbit.f t548).bind fun t552 => (if t552 = true then (none) else ((samphirelaw04_awake.f kj2).bind fun t553 => (some t553)))) else (none)) else (if (FloatKind.f64.format.order t548 t550 == some Ordering.gt || FloatKind.f64.format.order t548 t550 == some Ordering.eq) = true then (if (FloatKind.f64.format.order t548 0 == some Ordering.gt || FloatKind.f64.format.order t548 0 == some Ordering.eq) = true then ((math_Signbit.f t548).bind fun t554 => (if t554 = true then (none) else ((samphirelaw04_awake.f kj2).bind fun t555 => (some t555)))) else (none)) else (none))) else (if (FloatKind.f64.format.order t548 t550 == some Ordering.lt || FloatKind.f64.format.order t548 t550 == some Ordering.eq) = true then (if t546 < 0 then (if (FloatKind.f64.format.order t548 0 == some Ordering.gt || FloatKind.f64.format.order t548 0 == some Ordering.eq) = true then ((math_Signbit.f t548).bind fun t556 => (if t556 = true then (none) else ((samphirelaw04_awake.f kj2).bind fun t557 => (some t557)))) else (none)) else (if (FloatKind.f64.format.order t548 t550 == some Ordering.gt || FloatKind.f64.format.order t548 t550 == some Ordering.eq) = true then (if (FloatKind.f64.format.order t548 0 == some Ordering.gt || FloatKind.f64.format.order t548 0 == some Ordering.eq) = true then ((math_Signbit.f t548).bind fun t558 => (if t558 = true then (none) else ((samphirelaw04_awake.f kj2).bind fun t559 => (some t559)))) else (none)) else (none))) else (none))) else (none)) else (none)) else (none)) = some r := H
        have A38 := Aside0.mk A380
        clear A380
        by_cases c39 : t547 = 0
        · rw [if_pos c39] at H
          have c39b0 : (t547 == 0) = true := beq_iff_eq.mpr c39
          have c39b1 : (t547 != 0) = false := bne_eq_false_iff_eq.mpr c39
          clear c39
          by_cases c40 : t549 = 0
          · rw [if_pos c40] at H
            have c40b0 : (t549 == 0) = true := beq_iff_eq.mpr c40
            have c40b1 : (t549 != 0) = false := bne_eq_false_iff_eq.mpr c40
            clear c40
            by_cases c41 : t551 = 0
            · rw [if_pos c41] at H
              have c41b0 : (t551 == 0) = true := beq_iff_eq.mpr c41
              have c41b1 : (t551 != 0) = false := bne_eq_false_iff_eq.mpr c41
              clear c41
              by_cases c42 : t546 > 0
              · rw [if_pos c42] at H
                have c42b0 : decide (0 < t546) = true := decide_eq_true c42
                clear c42
                by_cases c43 : t546 < 0
                · rw [if_pos c43] at H
                  have c43b0 : decide (t546 < 0) = true := decide_eq_true c43
                  clear c43
                  by_cases c44 : (FloatKind.f64.format.order t548 0 == some Ordering.gt || FloatKind.f64.format.order t548 0 == some Ordering.eq) = true
                  · rw [if_pos c44] at H
                    have c44b0 : (FloatKind.f64.format.order t548 0 == some Ordering.gt || FloatKind.f64.format.order t548 0 == some Ordering.eq) = true := c44
                    (try (have c44b1 : decide (FloatKind.f64.format.order t548 0 = some Ordering.gt || FloatKind.f64.format.order t548 0 == some Ordering.eq) = true := by simpa using c44))
                    (try (have c44b2 : (FloatKind.f64.format.order t548 0 == some Ordering.gt || FloatKind.f64.format.order t548 0 == some Ordering.eq) = true := by simpa using c44))
                    clear c44
                    replace H := Option.bind_eq_some_iff.mp H
                    obtain ⟨t552, A450, H⟩ := H
                    replace H : (if t552 = true then (none) else ((samphirelaw04_awake.f kj2).bind fun t553 => (some t553))) = some r := H
                    have A45 := Aside0.mk A450
                    clear A450
                    by_cases c46 : t552 = true
                    · subst c46
                      have H1 : (none) = some r := by rw [if_pos rfl] at H; exact H
                      clear H
                      have H := H1
                      clear H1
                      exact absurd H (by simp)
                    · replace c46 := Bool.eq_false_iff.mpr c46
                      subst c46
                      have H1 : ((samphirelaw04_awake.f kj2).bind fun t553 => (some t553)) = some r := by rw [if_neg (show ¬ (false = true) by decide)] at H; exact H
                      clear H
                      have H := H1
                      clear H1
                      replace H := Option.bind_eq_some_iff.mp H
                      obtain ⟨t553, A470, H⟩ := H
                      replace H : (some t553) = some r := H
                      have A47 := Aside0.mk A470
                      clear A470
                      obtain rfl := Option.some.inj H
                      have hnb48 := NB541_542.out
                      have hnc48 := NB542_541.out
                      have hcz49_0 : wc.cell? ⟨gb541, 0, none⟩ = some (.slice A0_0 l0_0.length c0_0) := (blk_cell BK541.out 0).trans rfl
                      have hcz49_1 : wc.cell? ⟨gb541, 1, none⟩ = some (.slice A0_1 l0_1.length c0_1) := (blk_cell BK541.out 1).trans rfl
                      have hfz49_0 := blk_frozen BK541.out 0
                      have hfz49_1 := blk_frozen BK541.out 1
                      have hcz50_0 : wc.cell? ⟨gb542, 0, none⟩ = some (.slice A1_0 l1_0.length c1_0) := (blk_cell BK542.out 0).trans rfl
                      have hcz50_1 : wc.cell? ⟨gb542, 1, none⟩ = some (.slice A1_1 l1_1.length c1_1) := (blk_cell BK542.out 1).trans rfl
                      have hfz50_0 := blk_frozen BK542.out 0
                      have hfz50_1 := blk_frozen BK542.out 1
                      go_wp2_with (first | ((with_reducible refine gate_callee (f := 14) rfl ?_); refine goesL_ (some 47) rfl rfl Tryd.func14 (by kernel_rfl) rfl #[.agg #[.slice A0_0 l0_0.length c0_0, .slice A0_1 l0_1.length c0_1], .agg #[.slice A1_0 l1_0.length c1_0, .slice A1_1 l1_1.length c1_1]] rfl (by (try simp only [List.map_toArray, List.map_cons, List.map_nil]); first | done | rfl | (simp only [List.length_drop, List.length_take]; rfl)) ?_; (with_reducible refine (rat_Cmp.calls kj2 _ _ l0_0 _ _ l0_1 _ _ l1_0 _ _ l1_1 t546 t547 _ ?side1 ?side2 ?side3 ?side4 ?side5 ?side6 ?side7 ?side8 A36.out).mono ?_); (case side1 => repeat (first | exact (Kd.C_below HR0_0.out HB.out) | (with_reducible refine Kd.C_alloc ?_ _) | (with_reducible refine Kd.C_drewN ?_ _) | (with_reducible refine Kd.C_drew ?_))); (case side2 => exact HC0_0.out); (case side3 => repeat (first | exact (Kd.C_below HR0_1.out HB.out) | (with_reducible refine Kd.C_alloc ?_ _) | (with_reducible refine Kd.C_drewN ?_ _) | (with_reducible refine Kd.C_drew ?_))); (case side4 => exact HC0_1.out); (case side5 => repeat (first | exact (Kd.C_below HR1_0.out HB.out) | (with_reducible refine Kd.C_alloc ?_ _) | (with_reducible refine Kd.C_drewN ?_ _) | (with_reducible refine Kd.C_drew ?_))); (case side6 => exact HC1_0.out); (case side7 => repeat (first | exact (Kd.C_below HR1_1.out HB.out) | (with_reducible refine Kd.C_alloc ?_ _) | (with_reducible refine Kd.C_drewN ?_ _) | (with_reducible refine Kd.C_drew ?_))); (case side8 => exact HC1_1.out); rintro e w51 ⟨rfl, hb⟩; refine ⟨_, rfl, ?_⟩; have n0_ := Aside0.mk (blk_below (g := gb541) (o := .cells #[.slice A0_0 l0_0.length c0_0, .slice A0_1 l0_1.length c0_1] 25 (0, 0)) (by (with_reducible repeat (first | refine blk_drewN ?_ _ | refine blk_drew ?_ | refine blk_alloc ?_ _)); exact BK541.out) hb); have n1_ := Aside0.mk (blk_below (g := gb542) (o := .cells #[.slice A1_0 l1_0.length c1_0, .slice A1_1 l1_1.length c1_1] 25 (0, 0)) (by (with_reducible repeat (first | refine blk_drewN ?_ _ | refine blk_drew ?_ | refine blk_alloc ?_ _)); exact BK542.out) hb); have n2_ := Aside0.mk (below_step (by repeat (first | (with_reducible first | exact HB.out | apply below_alloc | apply pw_below_drewN | apply below_drew1 | refine below_set ?_ GE541.out | refine below_set ?_ GE542.out) | exact HB.out)) hb); clear BK541; clear BK542; clear HB; have BK541 := n0_; have BK542 := n1_; have HB := n2_; clear n0_ n1_ n2_; (try clear hb); (try clear hb2); (try clear hk); (try clear hi); have hcz52_0 : w51.cell? ⟨gb541, 0, none⟩ = some (.slice A0_0 l0_0.length c0_0) := (blk_cell BK541.out 0).trans rfl; have hcz52_1 : w51.cell? ⟨gb541, 1, none⟩ = some (.slice A0_1 l0_1.length c0_1) := (blk_cell BK541.out 1).trans rfl; have hfz52_0 := blk_frozen BK541.out 0; have hfz52_1 := blk_frozen BK541.out 1) | ((with_reducible refine gate_callee (f := 10) rfl ?_); refine goesL_ (some 52) rfl rfl Tryd.func10 (by kernel_rfl) rfl #[.agg #[.slice A0_0 l0_0.length c0_0, .slice A0_1 l0_1.length c0_1]] rfl (by (try simp only [List.map_toArray, List.map_cons, List.map_nil]); first | done | rfl | (simp only [List.length_drop, List.length_take]; rfl)) ?_; (with_reducible refine (approx_Float.calls kj2 _ _ l0_0 _ _ l0_1 t548 t549 _ ?side1 ?side2 ?side3 ?side4 A37.out).mono ?_); (case side1 => repeat (first | exact (Kd.C_below HR0_0.out HB.out) | (with_reducible refine Kd.C_alloc ?_ _) | (with_reducible refine Kd.C_drewN ?_ _) | (with_reducible refine Kd.C_drew ?_))); (case side2 => exact HC0_0.out); (case side3 => repeat (first | exact (Kd.C_below HR0_1.out HB.out) | (with_reducible refine Kd.C_alloc ?_ _) | (with_reducible refine Kd.C_drewN ?_ _) | (with_reducible refine Kd.C_drew ?_))); (case side4 => exact HC0_1.out); rintro e w53 ⟨rfl, hb⟩; refine ⟨_, rfl, ?_⟩; have n0_ := Aside0.mk (blk_below (g := gb541) (o := .cells #[.slice A0_0 l0_0.length c0_0, .slice A0_1 l0_1.length c0_1] 25 (0, 0)) (by (with_reducible repeat (first | refine blk_drewN ?_ _ | refine blk_drew ?_ | refine blk_alloc ?_ _)); exact BK541.out) hb); have n1_ := Aside0.mk (blk_below (g := gb542) (o := .cells #[.slice A1_0 l1_0.length c1_0, .slice A1_1 l1_1.length c1_1] 25 (0, 0)) (by (with_reducible repeat (first | refine blk_drewN ?_ _ | refine blk_drew ?_ | refine blk_alloc ?_ _)); exact BK542.out) hb); have n2_ := Aside0.mk (below_step (by repeat (first | (with_reducible first | exact HB.out | apply below_alloc | apply pw_below_drewN | apply below_drew1 | refine below_set ?_ GE541.out | refine below_set ?_ GE542.out) | exact HB.out)) hb); clear BK541; clear BK542; clear HB; have BK541 := n0_; have BK542 := n1_; have HB := n2_; clear n0_ n1_ n2_; (try clear hb); (try clear hb2); (try clear hk); (try clear hi); have hcz54_0 : w53.cell? ⟨gb542, 0, none⟩ = some (.slice A1_0 l1_0.length c1_0) := (blk_cell BK542.out 0).trans rfl; have hcz54_1 : w53.cell? ⟨gb542, 1, none⟩ = some (.slice A1_1 l1_1.length c1_1) := (blk_cell BK542.out 1).trans rfl; have hfz54_0 := blk_frozen BK542.out 0; have hfz54_1 := blk_frozen BK542.out 1) | ((with_reducible refine gate_callee (f := 10) rfl ?_); refine goesL_ (some 57) rfl rfl Tryd.func10 (by kernel_rfl) rfl #[.agg #[.slice A1_0 l1_0.length c1_0, .slice A1_1 l1_1.length c1_1]] rfl (by (try simp only [List.map_toArray, List.map_cons, List.map_nil]); first | done | rfl | (simp only [List.length_drop, List.length_take]; rfl)) ?_; (with_reducible refine (approx_Float.calls kj2 _ _ l1_0 _ _ l1_1 t550 t551 _ ?side1 ?side2 ?side3 ?side4 A38.out).mono ?_); (case side1 => repeat (first | exact (Kd.C_below HR1_0.out HB.out) | (with_reducible refine Kd.C_alloc ?_ _) | (with_reducible refine Kd.C_drewN ?_ _) | (with_reducible refine Kd.C_drew ?_))); (case side2 => exact HC1_0.out); (case side3 => repeat (first | exact (Kd.C_below HR1_1.out HB.out) | (with_reducible refine Kd.C_alloc ?_ _) | (with_reducible refine Kd.C_drewN ?_ _) | (with_reducible refine Kd.C_drew ?_))); (case side4 => exact HC1_1.out); rintro e w55 ⟨rfl, hb⟩; refine ⟨_, rfl, ?_⟩; have n0_ := Aside0.mk (blk_below (g := gb541) (o := .cells #[.slice A0_0 l0_0.length c0_0, .slice A0_1 l0_1.length c0_1] 25 (0, 0)) (by (with_reducible repeat (first | refine blk_drewN ?_ _ | refine blk_drew ?_ | refine blk_alloc ?_ _)); exact BK541.out) hb); have n1_ := Aside0.mk (blk_below (g := gb542) (o := .cells #[.slice A1_0 l1_0.length c1_0, .slice A1_1 l1_1.length c1_1] 25 (0, 0)) (by (with_reducible repeat (first | refine blk_drewN ?_ _ | refine blk_drew ?_ | refine blk_alloc ?_ _)); exact BK542.out) hb); have n2_ := Aside0.mk (below_step (by repeat (first | (with_reducible first | exact HB.out | apply below_alloc | apply pw_below_drewN | apply below_drew1 | refine below_set ?_ GE541.out | refine below_set ?_ GE542.out) | exact HB.out)) hb); clear BK541; clear BK542; clear HB; have BK541 := n0_; have BK542 := n1_; have HB := n2_; clear n0_ n1_ n2_; (try clear hb); (try clear hb2); (try clear hk); (try clear hi)) | (go_at_call 13; (with_reducible refine (math_Signbit.calls t548 false _ A45.out).mono ?_); rintro e w' ⟨rfl, ⟨nd, rfl⟩⟩) | (go_at_call 8; (with_reducible refine (samphirelaw04_awake.calls kj2  t553 _ A47.out).mono ?_); rintro e w56 ⟨rfl, hb⟩; have n0_ := Aside0.mk (blk_below (g := gb541) (o := .cells #[.slice A0_0 l0_0.length c0_0, .slice A0_1 l0_1.length c0_1] 25 (0, 0)) (by (with_reducible repeat (first | refine blk_drewN ?_ _ | refine blk_drew ?_ | refine blk_alloc ?_ _)); exact BK541.out) hb); have n1_ := Aside0.mk (blk_below (g := gb542) (o := .cells #[.slice A1_0 l1_0.length c1_0, .slice A1_1 l1_1.length c1_1] 25 (0, 0)) (by (with_reducible repeat (first | refine blk_drewN ?_ _ | refine blk_drew ?_ | refine blk_alloc ?_ _)); exact BK542.out) hb); have n2_ := Aside0.mk (below_step (by repeat (first | (with_reducible first | exact HB.out | apply below_alloc | apply pw_below_drewN | apply below_drew1 | refine below_set ?_ GE541.out | refine below_set ?_ GE542.out) | exact HB.out)) hb); clear BK541; clear BK542; clear HB; have BK541 := n0_; have BK542 := n1_; have HB := n2_; clear n0_ n1_ n2_; (try clear hb); (try clear hb2); (try clear hk); (try clear hi)))
                      go_ret
                      exact ⟨by first | rfl | (simp [errW_none, errW_some] <;> rfl) | (simp [*, errW_none, errW_some] <;> rfl), by repeat (first | (with_reducible first | exact HB.out | apply below_alloc | apply pw_below_drewN | apply below_drew1 | refine below_set ?_ GE541.out | refine below_set ?_ GE542.out) | exact HB.out)⟩
                  · rw [if_neg c44] at H
                    exact absurd H (by simp)
                · rw [if_neg c43] at H
                  have c43b0 : decide (t546 < 0) = false := decide_eq_false c43
                  clear c43
                  by_cases c57 : (FloatKind.f64.format.order t548 t550 == some Ordering.gt || FloatKind.f64.format.order t548 t550 == some Ordering.eq) = true
                  · rw [if_pos c57] at H
                    have c57b0 : (FloatKind.f64.format.order t548 t550 == some Ordering.gt || FloatKind.f64.format.order t548 t550 == some Ordering.eq) = true := c57
                    (try (have c57b1 : decide (FloatKind.f64.format.order t548 t550 = some Ordering.gt || FloatKind.f64.format.order t548 t550 == some Ordering.eq) = true := by simpa using c57))
                    (try (have c57b2 : (FloatKind.f64.format.order t548 t550 == some Ordering.gt || FloatKind.f64.format.order t548 t550 == some Ordering.eq) = true := by simpa using c57))
                    clear c57
                    by_cases c58 : (FloatKind.f64.format.order t548 0 == some Ordering.gt || FloatKind.f64.format.order t548 0 == some Ordering.eq) = true
                    · rw [if_pos c58] at H
                      have c58b0 : (FloatKind.f64.format.order t548 0 == some Ordering.gt || FloatKind.f64.format.order t548 0 == some Ordering.eq) = true := c58
                      (try (have c58b1 : decide (FloatKind.f64.format.order t548 0 = some Ordering.gt || FloatKind.f64.format.order t548 0 == some Ordering.eq) = true := by simpa using c58))
                      (try (have c58b2 : (FloatKind.f64.format.order t548 0 == some Ordering.gt || FloatKind.f64.format.order t548 0 == some Ordering.eq) = true := by simpa using c58))
                      clear c58
                      replace H := Option.bind_eq_some_iff.mp H
                      obtain ⟨t554, A590, H⟩ := H
                      replace H : (if t554 = true then (none) else ((samphirelaw04_awake.f kj2).bind fun t555 => (some t555))) = some r := H
                      have A59 := Aside0.mk A590
                      clear A590
                      by_cases c60 : t554 = true
                      · subst c60
                        have H1 : (none) = some r := by rw [if_pos rfl] at H; exact H
                        clear H
                        have H := H1
                        clear H1
                        exact absurd H (by simp)
                      · replace c60 := Bool.eq_false_iff.mpr c60
                        subst c60
                        have H1 : ((samphirelaw04_awake.f kj2).bind fun t555 => (some t555)) = some r := by rw [if_neg (show ¬ (false = true) by decide)] at H; exact H
                        clear H
                        have H := H1
                        clear H1
                        replace H := Option.bind_eq_some_iff.mp H
                        obtain ⟨t555, A610, H⟩ := H
                        replace H : (some t555) = some r := H
                        have A61 := Aside0.mk A610
                        clear A610
                        obtain rfl := Option.some.inj H
                        have hnb62 := NB541_542.out
                        have hnc62 := NB542_541.out
                        have hcz63_0 : wc.cell? ⟨gb541, 0, none⟩ = some (.slice A0_0 l0_0.length c0_0) := (blk_cell BK541.out 0).trans rfl
                        have hcz63_1 : wc.cell? ⟨gb541, 1, none⟩ = some (.slice A0_1 l0_1.length c0_1) := (blk_cell BK541.out 1).trans rfl
                        have hfz63_0 := blk_frozen BK541.out 0
                        have hfz63_1 := blk_frozen BK541.out 1
                        have hcz64_0 : wc.cell? ⟨gb542, 0, none⟩ = some (.slice A1_0 l1_0.length c1_0) := (blk_cell BK542.out 0).trans rfl
                        have hcz64_1 : wc.cell? ⟨gb542, 1, none⟩ = some (.slice A1_1 l1_1.length c1_1) := (blk_cell BK542.out 1).trans rfl
                        have hfz64_0 := blk_frozen BK542.out 0
                        have hfz64_1 := blk_frozen BK542.out 1
                        go_wp2_with (first | ((with_reducible refine gate_callee (f := 14) rfl ?_); refine goesL_ (some 47) rfl rfl Tryd.func14 (by kernel_rfl) rfl #[.agg #[.slice A0_0 l0_0.length c0_0, .slice A0_1 l0_1.length c0_1], .agg #[.slice A1_0 l1_0.length c1_0, .slice A1_1 l1_1.length c1_1]] rfl (by (try simp only [List.map_toArray, List.map_cons, List.map_nil]); first | done | rfl | (simp only [List.length_drop, List.length_take]; rfl)) ?_; (with_reducible refine (rat_Cmp.calls kj2 _ _ l0_0 _ _ l0_1 _ _ l1_0 _ _ l1_1 t546 t547 _ ?side1 ?side2 ?side3 ?side4 ?side5 ?side6 ?side7 ?side8 A36.out).mono ?_); (case side1 => repeat (first | exact (Kd.C_below HR0_0.out HB.out) | (with_reducible refine Kd.C_alloc ?_ _) | (with_reducible refine Kd.C_drewN ?_ _) | (with_reducible refine Kd.C_drew ?_))); (case side2 => exact HC0_0.out); (case side3 => repeat (first | exact (Kd.C_below HR0_1.out HB.out) | (with_reducible refine Kd.C_alloc ?_ _) | (with_reducible refine Kd.C_drewN ?_ _) | (with_reducible refine Kd.C_drew ?_))); (case side4 => exact HC0_1.out); (case side5 => repeat (first | exact (Kd.C_below HR1_0.out HB.out) | (with_reducible refine Kd.C_alloc ?_ _) | (with_reducible refine Kd.C_drewN ?_ _) | (with_reducible refine Kd.C_drew ?_))); (case side6 => exact HC1_0.out); (case side7 => repeat (first | exact (Kd.C_below HR1_1.out HB.out) | (with_reducible refine Kd.C_alloc ?_ _) | (with_reducible refine Kd.C_drewN ?_ _) | (with_reducible refine Kd.C_drew ?_))); (case side8 => exact HC1_1.out); rintro e w65 ⟨rfl, hb⟩; refine ⟨_, rfl, ?_⟩; have n0_ := Aside0.mk (blk_below (g := gb541) (o := .cells #[.slice A0_0 l0_0.length c0_0, .slice A0_1 l0_1.length c0_1] 25 (0, 0)) (by (with_reducible repeat (first | refine blk_drewN ?_ _ | refine blk_drew ?_ | refine blk_alloc ?_ _)); exact BK541.out) hb); have n1_ := Aside0.mk (blk_below (g := gb542) (o := .cells #[.slice A1_0 l1_0.length c1_0, .slice A1_1 l1_1.length c1_1] 25 (0, 0)) (by (with_reducible repeat (first | refine blk_drewN ?_ _ | refine blk_drew ?_ | refine blk_alloc ?_ _)); exact BK542.out) hb); have n2_ := Aside0.mk (below_step (by repeat (first | (with_reducible first | exact HB.out | apply below_alloc | apply pw_below_drewN | apply below_drew1 | refine below_set ?_ GE541.out | refine below_set ?_ GE542.out) | exact HB.out)) hb); clear BK541; clear BK542; clear HB; have BK541 := n0_; have BK542 := n1_; have HB := n2_; clear n0_ n1_ n2_; (try clear hb); (try clear hb2); (try clear hk); (try clear hi); have hcz66_0 : w65.cell? ⟨gb541, 0, none⟩ = some (.slice A0_0 l0_0.length c0_0) := (blk_cell BK541.out 0).trans rfl; have hcz66_1 : w65.cell? ⟨gb541, 1, none⟩ = some (.slice A0_1 l0_1.length c0_1) := (blk_cell BK541.out 1).trans rfl; have hfz66_0 := blk_frozen BK541.out 0; have hfz66_1 := blk_frozen BK541.out 1) | ((with_reducible refine gate_callee (f := 10) rfl ?_); refine goesL_ (some 52) rfl rfl Tryd.func10 (by kernel_rfl) rfl #[.agg #[.slice A0_0 l0_0.length c0_0, .slice A0_1 l0_1.length c0_1]] rfl (by (try simp only [List.map_toArray, List.map_cons, List.map_nil]); first | done | rfl | (simp only [List.length_drop, List.length_take]; rfl)) ?_; (with_reducible refine (approx_Float.calls kj2 _ _ l0_0 _ _ l0_1 t548 t549 _ ?side1 ?side2 ?side3 ?side4 A37.out).mono ?_); (case side1 => repeat (first | exact (Kd.C_below HR0_0.out HB.out) | (with_reducible refine Kd.C_alloc ?_ _) | (with_reducible refine Kd.C_drewN ?_ _) | (with_reducible refine Kd.C_drew ?_))); (case side2 => exact HC0_0.out); (case side3 => repeat (first | exact (Kd.C_below HR0_1.out HB.out) | (with_reducible refine Kd.C_alloc ?_ _) | (with_reducible refine Kd.C_drewN ?_ _) | (with_reducible refine Kd.C_drew ?_))); (case side4 => exact HC0_1.out); rintro e w67 ⟨rfl, hb⟩; refine ⟨_, rfl, ?_⟩; have n0_ := Aside0.mk (blk_below (g := gb541) (o := .cells #[.slice A0_0 l0_0.length c0_0, .slice A0_1 l0_1.length c0_1] 25 (0, 0)) (by (with_reducible repeat (first | refine blk_drewN ?_ _ | refine blk_drew ?_ | refine blk_alloc ?_ _)); exact BK541.out) hb); have n1_ := Aside0.mk (blk_below (g := gb542) (o := .cells #[.slice A1_0 l1_0.length c1_0, .slice A1_1 l1_1.length c1_1] 25 (0, 0)) (by (with_reducible repeat (first | refine blk_drewN ?_ _ | refine blk_drew ?_ | refine blk_alloc ?_ _)); exact BK542.out) hb); have n2_ := Aside0.mk (below_step (by repeat (first | (with_reducible first | exact HB.out | apply below_alloc | apply pw_below_drewN | apply below_drew1 | refine below_set ?_ GE541.out | refine below_set ?_ GE542.out) | exact HB.out)) hb); clear BK541; clear BK542; clear HB; have BK541 := n0_; have BK542 := n1_; have HB := n2_; clear n0_ n1_ n2_; (try clear hb); (try clear hb2); (try clear hk); (try clear hi); have hcz68_0 : w67.cell? ⟨gb542, 0, none⟩ = some (.slice A1_0 l1_0.length c1_0) := (blk_cell BK542.out 0).trans rfl; have hcz68_1 : w67.cell? ⟨gb542, 1, none⟩ = some (.slice A1_1 l1_1.length c1_1) := (blk_cell BK542.out 1).trans rfl; have hfz68_0 := blk_frozen BK542.out 0; have hfz68_1 := blk_frozen BK542.out 1) | ((with_reducible refine gate_callee (f := 10) rfl ?_); refine goesL_ (some 57) rfl rfl Tryd.func10 (by kernel_rfl) rfl #[.agg #[.slice A1_0 l1_0.length c1_0, .slice A1_1 l1_1.length c1_1]] rfl (by (try simp only [List.map_toArray, List.map_cons, List.map_nil]); first | done | rfl | (simp only [List.length_drop, List.length_take]; rfl)) ?_; (with_reducible refine (approx_Float.calls kj2 _ _ l1_0 _ _ l1_1 t550 t551 _ ?side1 ?side2 ?side3 ?side4 A38.out).mono ?_); (case side1 => repeat (first | exact (Kd.C_below HR1_0.out HB.out) | (with_reducible refine Kd.C_alloc ?_ _) | (with_reducible refine Kd.C_drewN ?_ _) | (with_reducible refine Kd.C_drew ?_))); (case side2 => exact HC1_0.out); (case side3 => repeat (first | exact (Kd.C_below HR1_1.out HB.out) | (with_reducible refine Kd.C_alloc ?_ _) | (with_reducible refine Kd.C_drewN ?_ _) | (with_reducible refine Kd.C_drew ?_))); (case side4 => exact HC1_1.out); rintro e w69 ⟨rfl, hb⟩; refine ⟨_, rfl, ?_⟩; have n0_ := Aside0.mk (blk_below (g := gb541) (o := .cells #[.slice A0_0 l0_0.length c0_0, .slice A0_1 l0_1.length c0_1] 25 (0, 0)) (by (with_reducible repeat (first | refine blk_drewN ?_ _ | refine blk_drew ?_ | refine blk_alloc ?_ _)); exact BK541.out) hb); have n1_ := Aside0.mk (blk_below (g := gb542) (o := .cells #[.slice A1_0 l1_0.length c1_0, .slice A1_1 l1_1.length c1_1] 25 (0, 0)) (by (with_reducible repeat (first | refine blk_drewN ?_ _ | refine blk_drew ?_ | refine blk_alloc ?_ _)); exact BK542.out) hb); have n2_ := Aside0.mk (below_step (by repeat (first | (with_reducible first | exact HB.out | apply below_alloc | apply pw_below_drewN | apply below_drew1 | refine below_set ?_ GE541.out | refine below_set ?_ GE542.out) | exact HB.out)) hb); clear BK541; clear BK542; clear HB; have BK541 := n0_; have BK542 := n1_; have HB := n2_; clear n0_ n1_ n2_; (try clear hb); (try clear hb2); (try clear hk); (try clear hi)) | (go_at_call 13; (with_reducible refine (math_Signbit.calls t548 false _ A59.out).mono ?_); rintro e w' ⟨rfl, ⟨nd, rfl⟩⟩) | (go_at_call 8; (with_reducible refine (samphirelaw04_awake.calls kj2  t555 _ A61.out).mono ?_); rintro e w70 ⟨rfl, hb⟩; have n0_ := Aside0.mk (blk_below (g := gb541) (o := .cells #[.slice A0_0 l0_0.length c0_0, .slice A0_1 l0_1.length c0_1] 25 (0, 0)) (by (with_reducible repeat (first | refine blk_drewN ?_ _ | refine blk_drew ?_ | refine blk_alloc ?_ _)); exact BK541.out) hb); have n1_ := Aside0.mk (blk_below (g := gb542) (o := .cells #[.slice A1_0 l1_0.length c1_0, .slice A1_1 l1_1.length c1_1] 25 (0, 0)) (by (with_reducible repeat (first | refine blk_drewN ?_ _ | refine blk_drew ?_ | refine blk_alloc ?_ _)); exact BK542.out) hb); have n2_ := Aside0.mk (below_step (by repeat (first | (with_reducible first | exact HB.out | apply below_alloc | apply pw_below_drewN | apply below_drew1 | refine below_set ?_ GE541.out | refine below_set ?_ GE542.out) | exact HB.out)) hb); clear BK541; clear BK542; clear HB; have BK541 := n0_; have BK542 := n1_; have HB := n2_; clear n0_ n1_ n2_; (try clear hb); (try clear hb2); (try clear hk); (try clear hi)))
                        go_ret
                        exact ⟨by first | rfl | (simp [errW_none, errW_some] <;> rfl) | (simp [*, errW_none, errW_some] <;> rfl), by repeat (first | (with_reducible first | exact HB.out | apply below_alloc | apply pw_below_drewN | apply below_drew1 | refine below_set ?_ GE541.out | refine below_set ?_ GE542.out) | exact HB.out)⟩
                    · rw [if_neg c58] at H
                      exact absurd H (by simp)
                  · rw [if_neg c57] at H
                    exact absurd H (by simp)
              · rw [if_neg c42] at H
                have c42b0 : decide (0 < t546) = false := decide_eq_false c42
                clear c42
                by_cases c71 : (FloatKind.f64.format.order t548 t550 == some Ordering.lt || FloatKind.f64.format.order t548 t550 == some Ordering.eq) = true
                · rw [if_pos c71] at H
                  have c71b0 : (FloatKind.f64.format.order t548 t550 == some Ordering.lt || FloatKind.f64.format.order t548 t550 == some Ordering.eq) = true := c71
                  (try (have c71b1 : decide (FloatKind.f64.format.order t548 t550 = some Ordering.lt || FloatKind.f64.format.order t548 t550 == some Ordering.eq) = true := by simpa using c71))
                  (try (have c71b2 : (FloatKind.f64.format.order t548 t550 == some Ordering.lt || FloatKind.f64.format.order t548 t550 == some Ordering.eq) = true := by simpa using c71))
                  clear c71
                  by_cases c72 : t546 < 0
                  · rw [if_pos c72] at H
                    have c72b0 : decide (t546 < 0) = true := decide_eq_true c72
                    clear c72
                    by_cases c73 : (FloatKind.f64.format.order t548 0 == some Ordering.gt || FloatKind.f64.format.order t548 0 == some Ordering.eq) = true
                    · rw [if_pos c73] at H
                      have c73b0 : (FloatKind.f64.format.order t548 0 == some Ordering.gt || FloatKind.f64.format.order t548 0 == some Ordering.eq) = true := c73
                      (try (have c73b1 : decide (FloatKind.f64.format.order t548 0 = some Ordering.gt || FloatKind.f64.format.order t548 0 == some Ordering.eq) = true := by simpa using c73))
                      (try (have c73b2 : (FloatKind.f64.format.order t548 0 == some Ordering.gt || FloatKind.f64.format.order t548 0 == some Ordering.eq) = true := by simpa using c73))
                      clear c73
                      replace H := Option.bind_eq_some_iff.mp H
                      obtain ⟨t556, A740, H⟩ := H
                      replace H : (if t556 = true then (none) else ((samphirelaw04_awake.f kj2).bind fun t557 => (some t557))) = some r := H
                      have A74 := Aside0.mk A740
                      clear A740
                      by_cases c75 : t556 = true
                      · subst c75
                        have H1 : (none) = some r := by rw [if_pos rfl] at H; exact H
                        clear H
                        have H := H1
                        clear H1
                        exact absurd H (by simp)
                      · replace c75 := Bool.eq_false_iff.mpr c75
                        subst c75
                        have H1 : ((samphirelaw04_awake.f kj2).bind fun t557 => (some t557)) = some r := by rw [if_neg (show ¬ (false = true) by decide)] at H; exact H
                        clear H
                        have H := H1
                        clear H1
                        replace H := Option.bind_eq_some_iff.mp H
                        obtain ⟨t557, A760, H⟩ := H
                        replace H : (some t557) = some r := H
                        have A76 := Aside0.mk A760
                        clear A760
                        obtain rfl := Option.some.inj H
                        have hnb77 := NB541_542.out
                        have hnc77 := NB542_541.out
                        have hcz78_0 : wc.cell? ⟨gb541, 0, none⟩ = some (.slice A0_0 l0_0.length c0_0) := (blk_cell BK541.out 0).trans rfl
                        have hcz78_1 : wc.cell? ⟨gb541, 1, none⟩ = some (.slice A0_1 l0_1.length c0_1) := (blk_cell BK541.out 1).trans rfl
                        have hfz78_0 := blk_frozen BK541.out 0
                        have hfz78_1 := blk_frozen BK541.out 1
                        have hcz79_0 : wc.cell? ⟨gb542, 0, none⟩ = some (.slice A1_0 l1_0.length c1_0) := (blk_cell BK542.out 0).trans rfl
                        have hcz79_1 : wc.cell? ⟨gb542, 1, none⟩ = some (.slice A1_1 l1_1.length c1_1) := (blk_cell BK542.out 1).trans rfl
                        have hfz79_0 := blk_frozen BK542.out 0
                        have hfz79_1 := blk_frozen BK542.out 1
                        go_wp2_with (first | ((with_reducible refine gate_callee (f := 14) rfl ?_); refine goesL_ (some 47) rfl rfl Tryd.func14 (by kernel_rfl) rfl #[.agg #[.slice A0_0 l0_0.length c0_0, .slice A0_1 l0_1.length c0_1], .agg #[.slice A1_0 l1_0.length c1_0, .slice A1_1 l1_1.length c1_1]] rfl (by (try simp only [List.map_toArray, List.map_cons, List.map_nil]); first | done | rfl | (simp only [List.length_drop, List.length_take]; rfl)) ?_; (with_reducible refine (rat_Cmp.calls kj2 _ _ l0_0 _ _ l0_1 _ _ l1_0 _ _ l1_1 t546 t547 _ ?side1 ?side2 ?side3 ?side4 ?side5 ?side6 ?side7 ?side8 A36.out).mono ?_); (case side1 => repeat (first | exact (Kd.C_below HR0_0.out HB.out) | (with_reducible refine Kd.C_alloc ?_ _) | (with_reducible refine Kd.C_drewN ?_ _) | (with_reducible refine Kd.C_drew ?_))); (case side2 => exact HC0_0.out); (case side3 => repeat (first | exact (Kd.C_below HR0_1.out HB.out) | (with_reducible refine Kd.C_alloc ?_ _) | (with_reducible refine Kd.C_drewN ?_ _) | (with_reducible refine Kd.C_drew ?_))); (case side4 => exact HC0_1.out); (case side5 => repeat (first | exact (Kd.C_below HR1_0.out HB.out) | (with_reducible refine Kd.C_alloc ?_ _) | (with_reducible refine Kd.C_drewN ?_ _) | (with_reducible refine Kd.C_drew ?_))); (case side6 => exact HC1_0.out); (case side7 => repeat (first | exact (Kd.C_below HR1_1.out HB.out) | (with_reducible refine Kd.C_alloc ?_ _) | (with_reducible refine Kd.C_drewN ?_ _) | (with_reducible refine Kd.C_drew ?_))); (case side8 => exact HC1_1.out); rintro e w80 ⟨rfl, hb⟩; refine ⟨_, rfl, ?_⟩; have n0_ := Aside0.mk (blk_below (g := gb541) (o := .cells #[.slice A0_0 l0_0.length c0_0, .slice A0_1 l0_1.length c0_1] 25 (0, 0)) (by (with_reducible repeat (first | refine blk_drewN ?_ _ | refine blk_drew ?_ | refine blk_alloc ?_ _)); exact BK541.out) hb); have n1_ := Aside0.mk (blk_below (g := gb542) (o := .cells #[.slice A1_0 l1_0.length c1_0, .slice A1_1 l1_1.length c1_1] 25 (0, 0)) (by (with_reducible repeat (first | refine blk_drewN ?_ _ | refine blk_drew ?_ | refine blk_alloc ?_ _)); exact BK542.out) hb); have n2_ := Aside0.mk (below_step (by repeat (first | (with_reducible first | exact HB.out | apply below_alloc | apply pw_below_drewN | apply below_drew1 | refine below_set ?_ GE541.out | refine below_set ?_ GE542.out) | exact HB.out)) hb); clear BK541; clear BK542; clear HB; have BK541 := n0_; have BK542 := n1_; have HB := n2_; clear n0_ n1_ n2_; (try clear hb); (try clear hb2); (try clear hk); (try clear hi); have hcz81_0 : w80.cell? ⟨gb541, 0, none⟩ = some (.slice A0_0 l0_0.length c0_0) := (blk_cell BK541.out 0).trans rfl; have hcz81_1 : w80.cell? ⟨gb541, 1, none⟩ = some (.slice A0_1 l0_1.length c0_1) := (blk_cell BK541.out 1).trans rfl; have hfz81_0 := blk_frozen BK541.out 0; have hfz81_1 := blk_frozen BK541.out 1) | ((with_reducible refine gate_callee (f := 10) rfl ?_); refine goesL_ (some 52) rfl rfl Tryd.func10 (by kernel_rfl) rfl #[.agg #[.slice A0_0 l0_0.length c0_0, .slice A0_1 l0_1.length c0_1]] rfl (by (try simp only [List.map_toArray, List.map_cons, List.map_nil]); first | done | rfl | (simp only [List.length_drop, List.length_take]; rfl)) ?_; (with_reducible refine (approx_Float.calls kj2 _ _ l0_0 _ _ l0_1 t548 t549 _ ?side1 ?side2 ?side3 ?side4 A37.out).mono ?_); (case side1 => repeat (first | exact (Kd.C_below HR0_0.out HB.out) | (with_reducible refine Kd.C_alloc ?_ _) | (with_reducible refine Kd.C_drewN ?_ _) | (with_reducible refine Kd.C_drew ?_))); (case side2 => exact HC0_0.out); (case side3 => repeat (first | exact (Kd.C_below HR0_1.out HB.out) | (with_reducible refine Kd.C_alloc ?_ _) | (with_reducible refine Kd.C_drewN ?_ _) | (with_reducible refine Kd.C_drew ?_))); (case side4 => exact HC0_1.out); rintro e w82 ⟨rfl, hb⟩; refine ⟨_, rfl, ?_⟩; have n0_ := Aside0.mk (blk_below (g := gb541) (o := .cells #[.slice A0_0 l0_0.length c0_0, .slice A0_1 l0_1.length c0_1] 25 (0, 0)) (by (with_reducible repeat (first | refine blk_drewN ?_ _ | refine blk_drew ?_ | refine blk_alloc ?_ _)); exact BK541.out) hb); have n1_ := Aside0.mk (blk_below (g := gb542) (o := .cells #[.slice A1_0 l1_0.length c1_0, .slice A1_1 l1_1.length c1_1] 25 (0, 0)) (by (with_reducible repeat (first | refine blk_drewN ?_ _ | refine blk_drew ?_ | refine blk_alloc ?_ _)); exact BK542.out) hb); have n2_ := Aside0.mk (below_step (by repeat (first | (with_reducible first | exact HB.out | apply below_alloc | apply pw_below_drewN | apply below_drew1 | refine below_set ?_ GE541.out | refine below_set ?_ GE542.out) | exact HB.out)) hb); clear BK541; clear BK542; clear HB; have BK541 := n0_; have BK542 := n1_; have HB := n2_; clear n0_ n1_ n2_; (try clear hb); (try clear hb2); (try clear hk); (try clear hi); have hcz83_0 : w82.cell? ⟨gb542, 0, none⟩ = some (.slice A1_0 l1_0.length c1_0) := (blk_cell BK542.out 0).trans rfl; have hcz83_1 : w82.cell? ⟨gb542, 1, none⟩ = some (.slice A1_1 l1_1.length c1_1) := (blk_cell BK542.out 1).trans rfl; have hfz83_0 := blk_frozen BK542.out 0; have hfz83_1 := blk_frozen BK542.out 1) | ((with_reducible refine gate_callee (f := 10) rfl ?_); refine goesL_ (some 57) rfl rfl Tryd.func10 (by kernel_rfl) rfl #[.agg #[.slice A1_0 l1_0.length c1_0, .slice A1_1 l1_1.length c1_1]] rfl (by (try simp only [List.map_toArray, List.map_cons, List.map_nil]); first | done | rfl | (simp only [List.length_drop, List.length_take]; rfl)) ?_; (with_reducible refine (approx_Float.calls kj2 _ _ l1_0 _ _ l1_1 t550 t551 _ ?side1 ?side2 ?side3 ?side4 A38.out).mono ?_); (case side1 => repeat (first | exact (Kd.C_below HR1_0.out HB.out) | (with_reducible refine Kd.C_alloc ?_ _) | (with_reducible refine Kd.C_drewN ?_ _) | (with_reducible refine Kd.C_drew ?_))); (case side2 => exact HC1_0.out); (case side3 => repeat (first | exact (Kd.C_below HR1_1.out HB.out) | (with_reducible refine Kd.C_alloc ?_ _) | (with_reducible refine Kd.C_drewN ?_ _) | (with_reducible refine Kd.C_drew ?_))); (case side4 => exact HC1_1.out); rintro e w84 ⟨rfl, hb⟩; refine ⟨_, rfl, ?_⟩; have n0_ := Aside0.mk (blk_below (g := gb541) (o := .cells #[.slice A0_0 l0_0.length c0_0, .slice A0_1 l0_1.length c0_1] 25 (0, 0)) (by (with_reducible repeat (first | refine blk_drewN ?_ _ | refine blk_drew ?_ | refine blk_alloc ?_ _)); exact BK541.out) hb); have n1_ := Aside0.mk (blk_below (g := gb542) (o := .cells #[.slice A1_0 l1_0.length c1_0, .slice A1_1 l1_1.length c1_1] 25 (0, 0)) (by (with_reducible repeat (first | refine blk_drewN ?_ _ | refine blk_drew ?_ | refine blk_alloc ?_ _)); exact BK542.out) hb); have n2_ := Aside0.mk (below_step (by repeat (first | (with_reducible first | exact HB.out | apply below_alloc | apply pw_below_drewN | apply below_drew1 | refine below_set ?_ GE541.out | refine below_set ?_ GE542.out) | exact HB.out)) hb); clear BK541; clear BK542; clear HB; have BK541 := n0_; have BK542 := n1_; have HB := n2_; clear n0_ n1_ n2_; (try clear hb); (try clear hb2); (try clear hk); (try clear hi)) | (go_at_call 13; (with_reducible refine (math_Signbit.calls t548 false _ A74.out).mono ?_); rintro e w' ⟨rfl, ⟨nd, rfl⟩⟩) | (go_at_call 8; (with_reducible refine (samphirelaw04_awake.calls kj2  t557 _ A76.out).mono ?_); rintro e w85 ⟨rfl, hb⟩; have n0_ := Aside0.mk (blk_below (g := gb541) (o := .cells #[.slice A0_0 l0_0.length c0_0, .slice A0_1 l0_1.length c0_1] 25 (0, 0)) (by (with_reducible repeat (first | refine blk_drewN ?_ _ | refine blk_drew ?_ | refine blk_alloc ?_ _)); exact BK541.out) hb); have n1_ := Aside0.mk (blk_below (g := gb542) (o := .cells #[.slice A1_0 l1_0.length c1_0, .slice A1_1 l1_1.length c1_1] 25 (0, 0)) (by (with_reducible repeat (first | refine blk_drewN ?_ _ | refine blk_drew ?_ | refine blk_alloc ?_ _)); exact BK542.out) hb); have n2_ := Aside0.mk (below_step (by repeat (first | (with_reducible first | exact HB.out | apply below_alloc | apply pw_below_drewN | apply below_drew1 | refine below_set ?_ GE541.out | refine below_set ?_ GE542.out) | exact HB.out)) hb); clear BK541; clear BK542; clear HB; have BK541 := n0_; have BK542 := n1_; have HB := n2_; clear n0_ n1_ n2_; (try clear hb); (try clear hb2); (try clear hk); (try clear hi)))
                        go_ret
                        exact ⟨by first | rfl | (simp [errW_none, errW_some] <;> rfl) | (simp [*, errW_none, errW_some] <;> rfl), by repeat (first | (with_reducible first | exact HB.out | apply below_alloc | apply pw_below_drewN | apply below_drew1 | refine below_set ?_ GE541.out | refine below_set ?_ GE542.out) | exact HB.out)⟩
                    · rw [if_neg c73] at H
                      exact absurd H (by simp)
                  · rw [if_neg c72] at H
                    have c72b0 : decide (t546 < 0) = false := decide_eq_false c72
                    clear c72
                    by_cases c86 : (FloatKind.f64.format.order t548 t550 == some Ordering.gt || FloatKind.f64.format.order t548 t550 == some Ordering.eq) = true
                    · rw [if_pos c86] at H
                      have c86b0 : (FloatKind.f64.format.order t548 t550 == some Ordering.gt || FloatKind.f64.format.order t548 t550 == some Ordering.eq) = true := c86
                      (try (have c86b1 : decide (FloatKind.f64.format.order t548 t550 = some Ordering.gt || FloatKind.f64.format.order t548 t550 == some Ordering.eq) = true := by simpa using c86))
                      (try (have c86b2 : (FloatKind.f64.format.order t548 t550 == some Ordering.gt || FloatKind.f64.format.order t548 t550 == some Ordering.eq) = true := by simpa using c86))
                      clear c86
                      by_cases c87 : (FloatKind.f64.format.order t548 0 == some Ordering.gt || FloatKind.f64.format.order t548 0 == some Ordering.eq) = true
                      · rw [if_pos c87] at H
                        have c87b0 : (FloatKind.f64.format.order t548 0 == some Ordering.gt || FloatKind.f64.format.order t548 0 == some Ordering.eq) = true := c87
                        (try (have c87b1 : decide (FloatKind.f64.format.order t548 0 = some Ordering.gt || FloatKind.f64.format.order t548 0 == some Ordering.eq) = true := by simpa using c87))
                        (try (have c87b2 : (FloatKind.f64.format.order t548 0 == some Ordering.gt || FloatKind.f64.format.order t548 0 == some Ordering.eq) = true := by simpa using c87))
                        clear c87
                        replace H := Option.bind_eq_some_iff.mp H
                        obtain ⟨t558, A880, H⟩ := H
                        replace H : (if t558 = true then (none) else ((samphirelaw04_awake.f kj2).bind fun t559 => (some t559))) = some r := H
                        have A88 := Aside0.mk A880
                        clear A880
                        by_cases c89 : t558 = true
                        · subst c89
                          have H1 : (none) = some r := by rw [if_pos rfl] at H; exact H
                          clear H
                          have H := H1
                          clear H1
                          exact absurd H (by simp)
                        · replace c89 := Bool.eq_false_iff.mpr c89
                          subst c89
                          have H1 : ((samphirelaw04_awake.f kj2).bind fun t559 => (some t559)) = some r := by rw [if_neg (show ¬ (false = true) by decide)] at H; exact H
                          clear H
                          have H := H1
                          clear H1
                          replace H := Option.bind_eq_some_iff.mp H
                          obtain ⟨t559, A900, H⟩ := H
                          replace H : (some t559) = some r := H
                          have A90 := Aside0.mk A900
                          clear A900
                          obtain rfl := Option.some.inj H
                          have hnb91 := NB541_542.out
                          have hnc91 := NB542_541.out
                          have hcz92_0 : wc.cell? ⟨gb541, 0, none⟩ = some (.slice A0_0 l0_0.length c0_0) := (blk_cell BK541.out 0).trans rfl
                          have hcz92_1 : wc.cell? ⟨gb541, 1, none⟩ = some (.slice A0_1 l0_1.length c0_1) := (blk_cell BK541.out 1).trans rfl
                          have hfz92_0 := blk_frozen BK541.out 0
                          have hfz92_1 := blk_frozen BK541.out 1
                          have hcz93_0 : wc.cell? ⟨gb542, 0, none⟩ = some (.slice A1_0 l1_0.length c1_0) := (blk_cell BK542.out 0).trans rfl
                          have hcz93_1 : wc.cell? ⟨gb542, 1, none⟩ = some (.slice A1_1 l1_1.length c1_1) := (blk_cell BK542.out 1).trans rfl
                          have hfz93_0 := blk_frozen BK542.out 0
                          have hfz93_1 := blk_frozen BK542.out 1
                          go_wp2_with (first | ((with_reducible refine gate_callee (f := 14) rfl ?_); refine goesL_ (some 47) rfl rfl Tryd.func14 (by kernel_rfl) rfl #[.agg #[.slice A0_0 l0_0.length c0_0, .slice A0_1 l0_1.length c0_1], .agg #[.slice A1_0 l1_0.length c1_0, .slice A1_1 l1_1.length c1_1]] rfl (by (try simp only [List.map_toArray, List.map_cons, List.map_nil]); first | done | rfl | (simp only [List.length_drop, List.length_take]; rfl)) ?_; (with_reducible refine (rat_Cmp.calls kj2 _ _ l0_0 _ _ l0_1 _ _ l1_0 _ _ l1_1 t546 t547 _ ?side1 ?side2 ?side3 ?side4 ?side5 ?side6 ?side7 ?side8 A36.out).mono ?_); (case side1 => repeat (first | exact (Kd.C_below HR0_0.out HB.out) | (with_reducible refine Kd.C_alloc ?_ _) | (with_reducible refine Kd.C_drewN ?_ _) | (with_reducible refine Kd.C_drew ?_))); (case side2 => exact HC0_0.out); (case side3 => repeat (first | exact (Kd.C_below HR0_1.out HB.out) | (with_reducible refine Kd.C_alloc ?_ _) | (with_reducible refine Kd.C_drewN ?_ _) | (with_reducible refine Kd.C_drew ?_))); (case side4 => exact HC0_1.out); (case side5 => repeat (first | exact (Kd.C_below HR1_0.out HB.out) | (with_reducible refine Kd.C_alloc ?_ _) | (with_reducible refine Kd.C_drewN ?_ _) | (with_reducible refine Kd.C_drew ?_))); (case side6 => exact HC1_0.out); (case side7 => repeat (first | exact (Kd.C_below HR1_1.out HB.out) | (with_reducible refine Kd.C_alloc ?_ _) | (with_reducible refine Kd.C_drewN ?_ _) | (with_reducible refine Kd.C_drew ?_))); (case side8 => exact HC1_1.out); rintro e w94 ⟨rfl, hb⟩; refine ⟨_, rfl, ?_⟩; have n0_ := Aside0.mk (blk_below (g := gb541) (o := .cells #[.slice A0_0 l0_0.length c0_0, .slice A0_1 l0_1.length c0_1] 25 (0, 0)) (by (with_reducible repeat (first | refine blk_drewN ?_ _ | refine blk_drew ?_ | refine blk_alloc ?_ _)); exact BK541.out) hb); have n1_ := Aside0.mk (blk_below (g := gb542) (o := .cells #[.slice A1_0 l1_0.length c1_0, .slice A1_1 l1_1.length c1_1] 25 (0, 0)) (by (with_reducible repeat (first | refine blk_drewN ?_ _ | refine blk_drew ?_ | refine blk_alloc ?_ _)); exact BK542.out) hb); have n2_ := Aside0.mk (below_step (by repeat (first | (with_reducible first | exact HB.out | apply below_alloc | apply pw_below_drewN | apply below_drew1 | refine below_set ?_ GE541.out | refine below_set ?_ GE542.out) | exact HB.out)) hb); clear BK541; clear BK542; clear HB; have BK541 := n0_; have BK542 := n1_; have HB := n2_; clear n0_ n1_ n2_; (try clear hb); (try clear hb2); (try clear hk); (try clear hi); have hcz95_0 : w94.cell? ⟨gb541, 0, none⟩ = some (.slice A0_0 l0_0.length c0_0) := (blk_cell BK541.out 0).trans rfl; have hcz95_1 : w94.cell? ⟨gb541, 1, none⟩ = some (.slice A0_1 l0_1.length c0_1) := (blk_cell BK541.out 1).trans rfl; have hfz95_0 := blk_frozen BK541.out 0; have hfz95_1 := blk_frozen BK541.out 1) | ((with_reducible refine gate_callee (f := 10) rfl ?_); refine goesL_ (some 52) rfl rfl Tryd.func10 (by kernel_rfl) rfl #[.agg #[.slice A0_0 l0_0.length c0_0, .slice A0_1 l0_1.length c0_1]] rfl (by (try simp only [List.map_toArray, List.map_cons, List.map_nil]); first | done | rfl | (simp only [List.length_drop, List.length_take]; rfl)) ?_; (with_reducible refine (approx_Float.calls kj2 _ _ l0_0 _ _ l0_1 t548 t549 _ ?side1 ?side2 ?side3 ?side4 A37.out).mono ?_); (case side1 => repeat (first | exact (Kd.C_below HR0_0.out HB.out) | (with_reducible refine Kd.C_alloc ?_ _) | (with_reducible refine Kd.C_drewN ?_ _) | (with_reducible refine Kd.C_drew ?_))); (case side2 => exact HC0_0.out); (case side3 => repeat (first | exact (Kd.C_below HR0_1.out HB.out) | (with_reducible refine Kd.C_alloc ?_ _) | (with_reducible refine Kd.C_drewN ?_ _) | (with_reducible refine Kd.C_drew ?_))); (case side4 => exact HC0_1.out); rintro e w96 ⟨rfl, hb⟩; refine ⟨_, rfl, ?_⟩; have n0_ := Aside0.mk (blk_below (g := gb541) (o := .cells #[.slice A0_0 l0_0.length c0_0, .slice A0_1 l0_1.length c0_1] 25 (0, 0)) (by (with_reducible repeat (first | refine blk_drewN ?_ _ | refine blk_drew ?_ | refine blk_alloc ?_ _)); exact BK541.out) hb); have n1_ := Aside0.mk (blk_below (g := gb542) (o := .cells #[.slice A1_0 l1_0.length c1_0, .slice A1_1 l1_1.length c1_1] 25 (0, 0)) (by (with_reducible repeat (first | refine blk_drewN ?_ _ | refine blk_drew ?_ | refine blk_alloc ?_ _)); exact BK542.out) hb); have n2_ := Aside0.mk (below_step (by repeat (first | (with_reducible first | exact HB.out | apply below_alloc | apply pw_below_drewN | apply below_drew1 | refine below_set ?_ GE541.out | refine below_set ?_ GE542.out) | exact HB.out)) hb); clear BK541; clear BK542; clear HB; have BK541 := n0_; have BK542 := n1_; have HB := n2_; clear n0_ n1_ n2_; (try clear hb); (try clear hb2); (try clear hk); (try clear hi); have hcz97_0 : w96.cell? ⟨gb542, 0, none⟩ = some (.slice A1_0 l1_0.length c1_0) := (blk_cell BK542.out 0).trans rfl; have hcz97_1 : w96.cell? ⟨gb542, 1, none⟩ = some (.slice A1_1 l1_1.length c1_1) := (blk_cell BK542.out 1).trans rfl; have hfz97_0 := blk_frozen BK542.out 0; have hfz97_1 := blk_frozen BK542.out 1) | ((with_reducible refine gate_callee (f := 10) rfl ?_); refine goesL_ (some 57) rfl rfl Tryd.func10 (by kernel_rfl) rfl #[.agg #[.slice A1_0 l1_0.length c1_0, .slice A1_1 l1_1.length c1_1]] rfl (by (try simp only [List.map_toArray, List.map_cons, List.map_nil]); first | done | rfl | (simp only [List.length_drop, List.length_take]; rfl)) ?_; (with_reducible refine (approx_Float.calls kj2 _ _ l1_0 _ _ l1_1 t550 t551 _ ?side1 ?side2 ?side3 ?side4 A38.out).mono ?_); (case side1 => repeat (first | exact (Kd.C_below HR1_0.out HB.out) | (with_reducible refine Kd.C_alloc ?_ _) | (with_reducible refine Kd.C_drewN ?_ _) | (with_reducible refine Kd.C_drew ?_))); (case side2 => exact HC1_0.out); (case side3 => repeat (first | exact (Kd.C_below HR1_1.out HB.out) | (with_reducible refine Kd.C_alloc ?_ _) | (with_reducible refine Kd.C_drewN ?_ _) | (with_reducible refine Kd.C_drew ?_))); (case side4 => exact HC1_1.out); rintro e w98 ⟨rfl, hb⟩; refine ⟨_, rfl, ?_⟩; have n0_ := Aside0.mk (blk_below (g := gb541) (o := .cells #[.slice A0_0 l0_0.length c0_0, .slice A0_1 l0_1.length c0_1] 25 (0, 0)) (by (with_reducible repeat (first | refine blk_drewN ?_ _ | refine blk_drew ?_ | refine blk_alloc ?_ _)); exact BK541.out) hb); have n1_ := Aside0.mk (blk_below (g := gb542) (o := .cells #[.slice A1_0 l1_0.length c1_0, .slice A1_1 l1_1.length c1_1] 25 (0, 0)) (by (with_reducible repeat (first | refine blk_drewN ?_ _ | refine blk_drew ?_ | refine blk_alloc ?_ _)); exact BK542.out) hb); have n2_ := Aside0.mk (below_step (by repeat (first | (with_reducible first | exact HB.out | apply below_alloc | apply pw_below_drewN | apply below_drew1 | refine below_set ?_ GE541.out | refine below_set ?_ GE542.out) | exact HB.out)) hb); clear BK541; clear BK542; clear HB; have BK541 := n0_; have BK542 := n1_; have HB := n2_; clear n0_ n1_ n2_; (try clear hb); (try clear hb2); (try clear hk); (try clear hi)) | (go_at_call 13; (with_reducible refine (math_Signbit.calls t548 false _ A88.out).mono ?_); rintro e w' ⟨rfl, ⟨nd, rfl⟩⟩) | (go_at_call 8; (with_reducible refine (samphirelaw04_awake.calls kj2  t559 _ A90.out).mono ?_); rintro e w99 ⟨rfl, hb⟩; have n0_ := Aside0.mk (blk_below (g := gb541) (o := .cells #[.slice A0_0 l0_0.length c0_0, .slice A0_1 l0_1.length c0_1] 25 (0, 0)) (by (with_reducible repeat (first | refine blk_drewN ?_ _ | refine blk_drew ?_ | refine blk_alloc ?_ _)); exact BK541.out) hb); have n1_ := Aside0.mk (blk_below (g := gb542) (o := .cells #[.slice A1_0 l1_0.length c1_0, .slice A1_1 l1_1.length c1_1] 25 (0, 0)) (by (with_reducible repeat (first | refine blk_drewN ?_ _ | refine blk_drew ?_ | refine blk_alloc ?_ _)); exact BK542.out) hb); have n2_ := Aside0.mk (below_step (by repeat (first | (with_reducible first | exact HB.out | apply below_alloc | apply pw_below_drewN | apply below_drew1 | refine below_set ?_ GE541.out | refine below_set ?_ GE542.out) | exact HB.out)) hb); clear BK541; clear BK542; clear HB; have BK541 := n0_; have BK542 := n1_; have HB := n2_; clear n0_ n1_ n2_; (try clear hb); (try clear hb2); (try clear hk); (try clear hi)))
                          go_ret
                          exact ⟨by first | rfl | (simp [errW_none, errW_some] <;> rfl) | (simp [*, errW_none, errW_some] <;> rfl), by repeat (first | (with_reducible first | exact HB.out | apply below_alloc | apply pw_below_drewN | apply below_drew1 | refine below_set ?_ GE541.out | refine below_set ?_ GE542.out) | exact HB.out)⟩
                      · rw [if_neg c87] at H
                        exact absurd H (by simp)
                    · rw [if_neg c86] at H
                      exact absurd H (by simp)
                · rw [if_neg c71] at H
                  exact absurd H (by simp)
            · rw [if_neg c41] at H
              exact absurd H (by simp)
          · rw [if_neg c40] at H
            exact absurd H (by simp)
        · rw [if_neg c39] at H
          exact absurd H (by simp)

end Go.Proofs.YtamhiecepipnjaaDoor.GApproxRises
