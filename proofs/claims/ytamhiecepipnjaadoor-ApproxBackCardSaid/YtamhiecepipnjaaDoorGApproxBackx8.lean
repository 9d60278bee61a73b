-- Written by gprint (wip/gprint), this session's program over the kit's print. Not trusted: Lean checks it.
import Derived.Test.YtamhiecepipnjaaDoorGApproxBackx0
import Derived.Test.YtamhiecepipnjaaDoorGApproxBackx1
import Derived.Test.YtamhiecepipnjaaDoorGApproxBackx4
import Derived.Test.YtamhiecepipnjaaDoorGApproxBackx5
import Derived.Test.YtamhiecepipnjaaDoorGApproxBackx6
import Derived.Test.YtamhiecepipnjaaDoorGApproxBackx7
namespace Go.Proofs.YtamhiecepipnjaaDoor.GApproxBack
open Go.RowKit Go.Proofs.YtamhiecepipnjaaDoorW.PrintWords Go.Proofs.YtamhiecepipnjaaDoorW.PrintLast Go.Proofs.YtamhiecepipnjaaDoorW.PrintMore
attribute [local go_sem] max2_int min2_int max_two min_two max_three min_three max_four min_four   -- for this text's walks alone
set_option linter.unusedVariables false
set_option linter.unusedSimpArgs false

/-! ### approx_Exact: function 11 -/
def approx_Exact.j0 : Nat → Nat → Bool → Option (List Int × List Int × Int)
  | 0, _, _ => none
  | k + 1, x0, x18 => if x18 = true then (some (([] : List Int), ([] : List Int), 1)) else (if (FloatKind.f64.format.order x0 0 == some Ordering.eq) = true then ((rat_Whole.f k 0).bind fun bt426 => (some (bt426.1, bt426.2, 0))) else ((math_Frexp.f x0).bind fun bt432 => ((math_Ldexp.f bt432.1 53).bind fun t434 => (if (floatToIntVal .f64 t434 .u64).isSome = true then ((nat_Of.f k ((floatToIntVal .f64 t434 .u64).getD 0)).bind fun t435 => (if (wrap64 (bt432.2 - 53)) ≥ 0 then ((approx_power.f (wrap64 (bt432.2 - 53))).bind fun t438 => ((nat_Mul.f k t435 t438).bind fun bt441 => (if bt441.2 = 0 then ((nat_Of.f k 1).bind fun t445 => ((rat_Make.f k bt441.1 t445).bind fun bt448 => (some (bt448.1, bt448.2.1, bt448.2.2)))) else (none)))) else ((approx_power.f (wrap64 (-(wrap64 (bt432.2 - 53))))).bind fun t455 => ((rat_Make.f k t435 t455).bind fun bt458 => (some (bt458.1, bt458.2.1, bt458.2.2)))))) else (none)))))
def approx_Exact.f (k : Nat) (a0 : Nat) : Option (List Int × List Int × Int) := (math_IsNaN.f a0).bind fun t424 => (if t424 = true then (approx_Exact.j0 k a0 true) else ((math_IsInf.f a0 0).bind fun t425 => (if t425 = true then (approx_Exact.j0 k a0 true) else (approx_Exact.j0 k a0 (FloatKind.f64.format.order a0 0 == some Ordering.lt)))))
theorem approx_Exact.mono_l : ∀ k, (∀ y0 y1, LeO (approx_Exact.j0 k y0 y1) (approx_Exact.j0 (k + 1) y0 y1))
  | 0 => fun _ _ r h => by simp [approx_Exact.j0] at h
  | k + 1 => by
    have ih0 := approx_Exact.mono_l k
    · intro y0 y1
      unfold approx_Exact.j0
      repeat' first
      | (with_reducible exact ih0 _ _)
      | (with_reducible exact nat_Mul.mono _ _ _)
      | (with_reducible exact nat_Of.mono _ _)
      | (with_reducible exact rat_Make.mono _ _ _)
      | (with_reducible exact rat_Whole.mono _ _)
      | (with_reducible exact LeO.refl _)
      | (with_reducible exact LeO.none _)
      | (with_reducible refine LeO.ite ?_ ?_)
      | (with_reducible refine LeO.bind ?_ (fun _ => ?_))
      | exact ih0 _ _
      | exact nat_Mul.mono _ _ _
      | exact nat_Of.mono _ _
      | exact rat_Make.mono _ _ _
      | exact rat_Whole.mono _ _
      | exact LeO.none _
      | refine LeO.ite ?_ ?_
      | refine LeO.bind ?_ (fun _ => ?_)
theorem approx_Exact.mono : ∀ a0 k, LeO (approx_Exact.f k a0) (approx_Exact.f (k + 1) a0) := by
  intro a0 k
  have ih0 := approx_Exact.mono_l k
  unfold approx_Exact.f
  repeat' first
      | (with_reducible exact ih0 _ _)
      | (with_reducible exact nat_Mul.mono _ _ _)
      | (with_reducible exact nat_Of.mono _ _)
      | (with_reducible exact rat_Make.mono _ _ _)
      | (with_reducible exact rat_Whole.mono _ _)
      | (with_reducible exact LeO.refl _)
      | (with_reducible exact LeO.none _)
      | (with_reducible refine LeO.ite ?_ ?_)
      | (with_reducible refine LeO.bind ?_ (fun _ => ?_))
      | exact ih0 _ _
      | exact nat_Mul.mono _ _ _
      | exact nat_Of.mono _ _
      | exact rat_Make.mono _ _ _
      | exact rat_Whole.mono _ _
      | exact LeO.none _
      | refine LeO.ite ?_ ?_
      | refine LeO.bind ?_ (fun _ => ?_)
set_option maxHeartbeats 8000000 in
set_option maxRecDepth 100000 in
theorem approx_Exact.calls (k : Nat) (a0 : Nat) (r1 : List Int) (r2 : List Int) (r3 : Int) (w : World) (h : approx_Exact.f k a0 = some (r1, r2, r3)) :
    Calls Tryd.prog 11 #[.float .f64 a0] w fun e w' => ∃ v0_ v1_ : Value, e = .returned (.tuple #[.agg #[v0_, v1_], .int .i64 r3]) ∧ Kd.R (Kd.int .u32) 47 w' w.heap.size (fun k_ => some k_ ≠ (v1_ : Value).ownBlock) v0_ r1 ∧ Kd.R (Kd.int .u32) 47 w' w.heap.size (fun k_ => some k_ ≠ (v0_ : Value).ownBlock) v1_ r2 ∧ Below w.heap.size w w' := by
  have hu25 := Tryd.underlying25
  have HB := Aside0.mk (Below.refl w.heap.size w)
  have H : ((math_IsNaN.f a0).bind fun t424 => (if t424 = true then (approx_Exact.j0 k a0 true) else ((math_IsInf.f a0 0).bind fun t425 => (if t425 = true then (approx_Exact.j0 k a0 true) else (approx_Exact.j0 k a0 (FloatKind.f64.format.order a0 0 == some Ordering.lt)))))) = some (r1, r2, r3) := h
  clear h
  have HC2 := Aside0.mk H
  clear H
  go_enter Tryd.func11, Tryd.ntmps11
  go_upto_region 1 with (first | ((with_reducible refine gate_dst (N := 2) rfl ?_); refine box_event ?hg (N := 2) ?hd (cs := #[.slice none 0 0, .slice none 0 0]) (t := 25) ?hr ?_; (case hd => rfl); (case hg => rfl); (case hr => first | (go_simp; done) | (go_simp; rfl)); intro gb423 hg w3 hbox hb; have n0_ := Aside0.mk (below_step (by repeat (first | (with_reducible first | exact HB.out | apply below_alloc | apply pw_below_drewN | apply below_drew1) | exact HB.out)) hb); have n1_ := Aside0.mk (hbox); have n2_ := Aside0.mk ((by rw [hg]; exact (below_size (by repeat (first | (with_reducible first | exact HB.out | apply below_alloc | apply pw_below_drewN | apply below_drew1) | exact HB.out))) : w.heap.size ≤ gb423)); have n3_ := Aside0.mk ((by rw [hg]; exact (below_size (by repeat (first | (with_reducible first | exact HB.out | apply below_alloc | apply pw_below_drewN | apply below_drew1) | exact HB.out))) : w.heap.size ≤ gb423)); clear HB; have HB := n0_; have BK423 := n1_; have GW423 := n2_; have GE423 := n3_; clear n0_ n1_ n2_ n3_; clear hb hbox hg))
  (try simp only [Act.put, List.setIfInBounds_toArray, List.set_cons_zero, List.set_cons_succ])
  go_cut [18] (fun v18 wc => ∃ (kq : Nat) (x18_1 : Bool), v18 = .bool x18_1 ∧ Aside0 (approx_Exact.j0 kq a0 x18_1 = some (r1, r2, r3)) ∧ Aside0 (kq ≤ k) ∧ Aside0 (wc.heap[gb423]? = some (.cells #[(.slice none 0 0), (.slice none 0 0)] 25 (0, 0))) ∧ Aside0 (Below w.heap.size w wc))
  case first =>
    have H := HC2.out
    clear HC2
    replace H := Option.bind_eq_some_iff.mp H
    obtain ⟨t424, A40, H⟩ := H
    replace H : (if t424 = true then (approx_Exact.j0 k a0 true) else ((math_IsInf.f a0 0).bind fun t425 => (if t425 = true then (approx_Exact.j0 k a0 true) else (approx_Exact.j0 k a0 (FloatKind.f64.format.order a0 0 == some Ordering.lt))))) = some (r1, r2, r3) := H
    have A4 := Aside0.mk A40
    clear A40
    by_cases c5 : t424 = true
    · subst c5
      have H1 : (approx_Exact.j0 k a0 true) = some (r1, r2, r3) := by rw [if_pos rfl] at H; exact H
      clear H
      have H := H1
      clear H1
      have H' := Aside0.mk H
      clear H
      go_wp2_with (first | ((with_reducible refine gate_callee (f := 30) rfl ?_); refine goesL_ (some 10) rfl rfl Tryd.func30 (by kernel_rfl) rfl #[.float .f64 a0] rfl (by (try simp only [List.map_toArray, List.map_cons, List.map_nil]); first | done | rfl | (simp only [List.length_drop, List.length_take]; rfl)) ?_; (with_reducible refine (math_IsNaN.calls a0 true _ A4.out).mono ?_); rintro e w' ⟨rfl, ⟨nd, rfl⟩⟩; refine ⟨_, rfl, ?_⟩))
      go_meet
      case rel => exact ⟨_, (true), (by first | rfl | (simp; done) | (simp [*]; done)), H', ⟨by first | omega | exact Nat.le_refl _⟩, ⟨by (with_reducible repeat (first | refine blk_drewN ?_ _ | refine blk_drew ?_ | refine blk_alloc ?_ _)); exact BK423.out⟩, ⟨by repeat (first | (with_reducible first | exact HB.out | apply below_alloc | apply pw_below_drewN | apply below_drew1 | refine below_set ?_ GE423.out) | exact HB.out)⟩⟩
    · replace c5 := Bool.eq_false_iff.mpr c5
      subst c5
      have H1 : ((math_IsInf.f a0 0).bind fun t425 => (if t425 = true then (approx_Exact.j0 k a0 true) else (approx_Exact.j0 k a0 (FloatKind.f64.format.order a0 0 == some Ordering.lt)))) = some (r1, r2, r3) := by rw [if_neg (show ¬ (false = true) by decide)] at H; exact H
      clear H
      have H := H1
      clear H1
      replace H := Option.bind_eq_some_iff.mp H
      obtain ⟨t425, A60, H⟩ := H
      replace H : (if t425 = true then (approx_Exact.j0 k a0 true) else (approx_Exact.j0 k a0 (FloatKind.f64.format.order a0 0 == some Ordering.lt))) = some (r1, r2, r3) := H
      have A6 := Aside0.mk A60
      clear A60
      by_cases c7 : t425 = true
      · subst c7
        have H1 : (approx_Exact.j0 k a0 true) = some (r1, r2, r3) := by rw [if_pos rfl] at H; exact H
        clear H
        have H := H1
        clear H1
        have H' := Aside0.mk H
        clear H
        go_wp2_with (first | ((with_reducible refine gate_callee (f := 30) rfl ?_); refine goesL_ (some 10) rfl rfl Tryd.func30 (by kernel_rfl) rfl #[.float .f64 a0] rfl (by (try simp only [List.map_toArray, List.map_cons, List.map_nil]); first | done | rfl | (simp only [List.length_drop, List.length_take]; rfl)) ?_; (with_reducible refine (math_IsNaN.calls a0 false _ A4.out).mono ?_); rintro e w' ⟨rfl, ⟨nd, rfl⟩⟩; refine ⟨_, rfl, ?_⟩) | (go_at_call 31; (with_reducible refine (math_IsInf.calls a0 0 true _ A6.out).mono ?_); rintro e w' ⟨rfl, ⟨nd, rfl⟩⟩))
        go_meet
        case rel => exact ⟨_, (true), (by first | rfl | (simp; done) | (simp [*]; done)), H', ⟨by first | omega | exact Nat.le_refl _⟩, ⟨by (with_reducible repeat (first | refine blk_drewN ?_ _ | refine blk_drew ?_ | refine blk_alloc ?_ _)); exact BK423.out⟩, ⟨by repeat (first | (with_reducible first | exact HB.out | apply below_alloc | apply pw_below_drewN | apply below_drew1 | refine below_set ?_ GE423.out) | exact HB.out)⟩⟩
      · replace c7 := Bool.eq_false_iff.mpr c7
        subst c7
        have H1 : (approx_Exact.j0 k a0 (FloatKind.f64.format.order a0 0 == some Ordering.lt)) = some (r1, r2, r3) := by rw [if_neg (show ¬ (false = true) by decide)] at H; exact H
        clear H
        have H := H1
        clear H1
        have H' := Aside0.mk H
        clear H
        go_wp2_with (first | ((with_reducible refine gate_callee (f := 30) rfl ?_); refine goesL_ (some 10) rfl rfl Tryd.func30 (by kernel_rfl) rfl #[.float .f64 a0] rfl (by (try simp only [List.map_toArray, List.map_cons, List.map_nil]); first | done | rfl | (simp only [List.length_drop, List.length_take]; rfl)) ?_; (with_reducible refine (math_IsNaN.calls a0 false _ A4.out).mono ?_); rintro e w' ⟨rfl, ⟨nd, rfl⟩⟩; refine ⟨_, rfl, ?_⟩) | (go_at_call 31; (with_reducible refine (math_IsInf.calls a0 0 false _ A6.out).mono ?_); rintro e w' ⟨rfl, ⟨nd, rfl⟩⟩))
        go_meet
        case rel => exact ⟨_, ((FloatKind.f64.format.order a0 0 == some Ordering.lt)), (by first | rfl | (simp; done) | (simp [*]; done)), H', ⟨by first | omega | exact Nat.le_refl _⟩, ⟨by (with_reducible repeat (first | refine blk_drewN ?_ _ | refine blk_drew ?_ | refine blk_alloc ?_ _)); exact BK423.out⟩, ⟨by repeat (first | (with_reducible first | exact HB.out | apply below_alloc | apply pw_below_drewN | apply below_drew1 | refine below_set ?_ GE423.out) | exact HB.out)⟩⟩
  case rest =>
    clear HC2
    try clear c1
    try clear p2
    try clear c3
    try clear c5
    try clear c7
    obtain ⟨kq, x18_1, rfl, HA, HJ1, BK423, HB⟩ := hcut
    cases kq with
    | zero => exact absurd HA.out (by simp [approx_Exact.j0])
    | succ kj1 =>
      have H := HA.out
      clear HA
      simp only [approx_Exact.j0] at H
      by_cases c8 : x18_1 = true
      · subst c8
        have H1 : (some (([] : List Int), ([] : List Int), 1)) = some (r1, r2, r3) := by rw [if_pos rfl] at H; exact H
        clear H
        have H := H1
        clear H1
        simp only [Option.some.injEq, Prod.mk.injEq] at H
        obtain ⟨rfl, rfl, rfl⟩ := H
        have hcz9_0 : wc.cell? ⟨gb423, 0, none⟩ = some (.slice none 0 0) := (blk_cell BK423.out 0).trans rfl
        have hcz9_1 : wc.cell? ⟨gb423, 1, none⟩ = some (.slice none 0 0) := (blk_cell BK423.out 1).trans rfl
        have hfz9_0 := blk_frozen BK423.out 0
        have hfz9_1 := blk_frozen BK423.out 1
        go_wp2
        refine bodyPost_ret (results_ct rfl _ _ gb423 25 #[.slice none 0 0, .slice none 0 0] (0, 0) _ rfl (by (with_reducible repeat (first | refine blk_drewN ?_ _ | refine blk_drew ?_ | refine blk_alloc ?_ _)); refine blk_put (cs := #[.slice none 0 0, .slice none 0 0]) ?_ 1 _ rfl; (with_reducible repeat (first | refine blk_drewN ?_ _ | refine blk_drew ?_ | refine blk_alloc ?_ _)); refine blk_put (cs := #[.slice none 0 0, .slice none 0 0]) ?_ 0 _ rfl; (with_reducible repeat (first | refine blk_drewN ?_ _ | refine blk_drew ?_ | refine blk_alloc ?_ _)); exact BK423.out) Tryd.underlying25 rfl (by kernel_rfl)) rfl ?_
        exact ⟨_, _, by first | rfl | (simp [errW_none, errW_some] <;> rfl) | (simp [*, errW_none, errW_some] <;> rfl), by first | exact Kd.R_nil _ _ _ _ _ | exact Kd.N_nil _ _ _ _ _ | exact Kd.V_nil _ _ _ _ _ | exact Kd.Q_nil _ _ _ _ _ | exact Kd.S_nil _ _ _ _ _, by first | exact Kd.R_nil _ _ _ _ _ | exact Kd.N_nil _ _ _ _ _ | exact Kd.V_nil _ _ _ _ _ | exact Kd.Q_nil _ _ _ _ _ | exact Kd.S_nil _ _ _ _ _, by repeat (first | (with_reducible first | exact HB.out | apply below_alloc | apply pw_below_drewN | apply below_drew1 | refine below_set ?_ GE423.out) | exact HB.out)⟩
      · replace c8 := Bool.eq_false_iff.mpr c8
        subst c8
        have H1 : (if (FloatKind.f64.format.order a0 0 == some Ordering.eq) = true then ((rat_Whole.f kj1 0).bind fun bt426 => (some (bt426.1, bt426.2, 0))) else ((math_Frexp.f a0).bind fun bt432 => ((math_Ldexp.f bt432.1 53).bind fun t434 => (if (floatToIntVal .f64 t434 .u64).isSome = true then ((nat_Of.f kj1 ((floatToIntVal .f64 t434 .u64).getD 0)).bind fun t435 => (if (wrap64 (bt432.2 - 53)) ≥ 0 then ((approx_power.f (wrap64 (bt432.2 - 53))).bind fun t438 => ((nat_Mul.f kj1 t435 t438).bind fun bt441 => (if bt441.2 = 0 then ((nat_Of.f kj1 1).bind fun t445 => ((rat_Make.f kj1 bt441.1 t445).bind fun bt448 => (some (bt448.1, bt448.2.1, bt448.2.2)))) else (none)))) else ((approx_power.f (wrap64 (-(wrap64 (bt432.2 - 53))))).bind fun t455 => ((rat_Make.f kj1 t435 t455).bind fun bt458 => (some (bt458.1, bt458.2.1, bt458.2.2)))))) else (none))))) = some (r1, r2, r3) := by rw [if_neg (show ¬ (false = true) by decide)] at H; exact H
        clear H
        have H := H1
        clear H1
        by_cases c10 : (FloatKind.f64.format.order a0 0 == some Ordering.eq) = true
        · rw [if_pos c10] at H
          have c10b0 : (FloatKind.f64.format.order a0 0 == some Ordering.eq) = true := c10
          (try (have c10b1 : decide (FloatKind.f64.format.order a0 0 = some Ordering.eq) = true := by simpa using c10))
          (try (have c10b2 : (FloatKind.f64.format.order a0 0 == some Ordering.eq) = true := by simpa using c10))
          clear c10
          replace H := Option.bind_eq_some_iff.mp H
          obtain ⟨⟨t426, t429⟩, A110, H⟩ := H
          replace H : (some (t426, t429, 0)) = some (r1, r2, r3) := H
          have A11 := Aside0.mk A110
          clear A110
          simp only [Option.some.injEq, Prod.mk.injEq] at H
          obtain ⟨rfl, rfl, rfl⟩ := H
          go_wp2_with (first | ((with_reducible refine gate_callee (f := 32) rfl ?_); refine goesL_ (some 22) rfl rfl Tryd.func32 (by kernel_rfl) rfl #[.int .u64 0] rfl (by (try simp only [List.map_toArray, List.map_cons, List.map_nil]); first | done | rfl | (simp only [List.length_drop, List.length_take]; rfl)) ?_; (with_reducible refine (rat_Whole.calls kj1 0 t426 t429 _ A11.out).mono ?_); rintro e w12 ⟨v427, v430, rfl, ho0, ho1, hb⟩; refine ⟨_, rfl, ?_⟩; have n0_ := Aside0.mk (Kd.R_lower ho0 (below_size (by repeat (first | (with_reducible first | exact HB.out | apply below_alloc | apply pw_below_drewN | apply below_drew1 | refine below_set ?_ GE423.out) | exact HB.out)))); have n1_ := Aside0.mk (Kd.R_lower ho1 (below_size (by repeat (first | (with_reducible first | exact HB.out | apply below_alloc | apply pw_below_drewN | apply below_drew1 | refine below_set ?_ GE423.out) | exact HB.out)))); have n2_ := Aside0.mk (blk_below (g := gb423) (o := .cells #[.slice none 0 0, .slice none 0 0] 25 (0, 0)) (by (with_reducible repeat (first | refine blk_drewN ?_ _ | refine blk_drew ?_ | refine blk_alloc ?_ _)); exact BK423.out) hb); have n3_ := Aside0.mk (below_step (by repeat (first | (with_reducible first | exact HB.out | apply below_alloc | apply pw_below_drewN | apply below_drew1 | refine below_set ?_ GE423.out) | exact HB.out)) hb); clear BK423; clear HB; have HO428 := n0_; have HO431 := n1_; have BK423 := n2_; have HB := n3_; clear n0_ n1_ n2_ n3_; (try clear hb); (try clear hb2); (try clear hk); (try clear hi); (try clear ho0); (try clear ho1); obtain ⟨Ao13, co13, eo13⟩ := Kd.R_slice HO428.out; subst eo13; have hcz14_0 : w12.cell? ⟨gb423, 0, none⟩ = some (.slice none 0 0) := (blk_cell BK423.out 0).trans rfl; have hcz14_1 : w12.cell? ⟨gb423, 1, none⟩ = some (.slice none 0 0) := (blk_cell BK423.out 1).trans rfl; have hfz14_0 := blk_frozen BK423.out 0; have hfz14_1 := blk_frozen BK423.out 1; obtain ⟨Ao15, co15, eo15⟩ := Kd.R_slice HO431.out; subst eo15))
          refine bodyPost_ret (results_ct rfl _ _ gb423 25 #[.slice Ao13 t426.length co13, .slice Ao15 t429.length co15] (0, 0) _ rfl (by (with_reducible repeat (first | refine blk_drewN ?_ _ | refine blk_drew ?_ | refine blk_alloc ?_ _)); refine blk_put (cs := #[.slice Ao13 t426.length co13, .slice none 0 0]) ?_ 1 _ rfl; (with_reducible repeat (first | refine blk_drewN ?_ _ | refine blk_drew ?_ | refine blk_alloc ?_ _)); refine blk_put (cs := #[.slice none 0 0, .slice none 0 0]) ?_ 0 _ rfl; (with_reducible repeat (first | refine blk_drewN ?_ _ | refine blk_drew ?_ | refine blk_alloc ?_ _)); exact BK423.out) Tryd.underlying25 rfl (by kernel_rfl)) rfl ?_
          exact ⟨_, _, by first | rfl | (simp [errW_none, errW_some] <;> rfl) | (simp [*, errW_none, errW_some] <;> rfl), by (with_reducible repeat (first | apply Kd.R_alloc | apply Kd.R_drewN | apply Kd.R_drew)); exact Kd.R_mono (Kd.R_far (p := ⟨gb423, 1, none⟩) (Kd.R_far (p := ⟨gb423, 0, none⟩) (Kd.R_types HO428.out BK423.out (by decide)) (fun _ hk => hk.2) (.slice Ao13 t426.length co13)) (fun _ hk => hk.2) (.slice Ao15 t429.length co15)) (fun _ hk => hk.1), by (with_reducible repeat (first | apply Kd.R_alloc | apply Kd.R_drewN | apply Kd.R_drew)); exact Kd.R_mono (Kd.R_far (p := ⟨gb423, 1, none⟩) (Kd.R_far (p := ⟨gb423, 0, none⟩) (Kd.R_types HO431.out BK423.out (by decide)) (fun _ hk => hk.2) (.slice Ao13 t426.length co13)) (fun _ hk => hk.2) (.slice Ao15 t429.length co15)) (fun _ hk => hk.1), by repeat (first | (with_reducible first | exact HB.out | apply below_alloc | apply pw_below_drewN | apply below_drew1 | refine below_set ?_ GE423.out) | exact HB.out)⟩
        · rw [if_neg c10] at H
          have c10b0 : (FloatKind.f64.format.order a0 0 == some Ordering.eq) = false := by simpa using c10
          (try (have c10b1 : decide (FloatKind.f64.format.order a0 0 = some Ordering.eq) = false := by simpa using c10))
          (try (have c10b2 : (FloatKind.f64.format.order a0 0 == some Ordering.eq) = false := by simpa using c10))
          (try (have c10b3 : ¬ (FloatKind.f64.format.order a0 0 = some Ordering.eq) := by simpa using c10))
          clear c10
          replace H := Option.bind_eq_some_iff.mp H
          obtain ⟨⟨t432, t433⟩, A160, H⟩ := H
          replace H : ((math_Ldexp.f t432 53).bind fun t434 => (if (floatToIntVal .f64 t434 .u64).isSome = true then ((nat_Of.f kj1 ((floatToIntVal .f64 t434 .u64).getD 0)).bind fun t435 => (if (wrap64 (t433 - 53)) ≥ 0 then ((approx_power.f (wrap64 (t433 - 53))).bind fun t438 => ((nat_Mul.f kj1 t435 t438).bind fun bt441 => (if bt441.2 = 0 then ((nat_Of.f kj1 1).bind fun t445 => ((rat_Make.f kj1 bt441.1 t445).bind fun bt448 => (some (bt448.1, bt448.2.1, bt448.2.2)))) else (none)))) else ((approx_power.f (wrap64 (-(wrap64 (t433 - 53))))).bind fun t455 => ((rat_Make.f kj1 t435 t455).bind fun bt458 => (some (bt458.1, bt458.2.1, bt458.2.2)))))) else (none))) = some (r1, r2, r3) := H
          have A16 := Aside0.mk A160
          clear A160
          replace H := Option.bind_eq_some_iff.mp H
          obtain ⟨t434, A170, H⟩ := H
          replace H : (if (floatToIntVal .f64 t434 .u64).isSome = true then ((nat_Of.f kj1 ((floatToIntVal .f64 t434 .u64).getD 0)).bind fun t435 => (if (wrap64 (t433 - 53)) ≥ 0 then ((approx_power.f (wrap64 (t433 - 53))).bind fun t438 => ((nat_Mul.f kj1 t435 t438).bind fun bt441 => (if bt441.2 = 0 then ((nat_Of.f kj1 1).bind fun t445 => ((rat_Make.f kj1 bt441.1 t445).bind fun bt448 => (some (bt448.1, bt448.2.1, bt448.2.2)))) else (none)))) else ((approx_power.f (wrap64 (-(wrap64 (t433 - 53))))).bind fun t455 => ((rat_Make.f kj1 t435 t455).bind fun bt458 => (some (bt458.1, bt458.2.1, bt458.2.2)))))) else (none)) = some (r1, r2, r3) := H
          have A17 := Aside0.mk A170
          clear A170
          by_cases c18 : (floatToIntVal .f64 t434 .u64).isSome = true
          · rw [if_pos c18] at H
            have c18b0 := eq_true c18
            have c18b1 : decide ((floatToIntVal .f64 t434 .u64).isSome = true) = true := decide_eq_true c18
            have c18f := fun (W_ : World) => run_float_int_some (P := Tryd.prog) W_ 31 55 rfl Tryd.underlying55 c18
            clear c18
            replace H := Option.bind_eq_some_iff.mp H
            obtain ⟨t435, A190, H⟩ := H
            replace H : (if (wrap64 (t433 - 53)) ≥ 0 then ((approx_power.f (wrap64 (t433 - 53))).bind fun t438 => ((nat_Mul.f kj1 t435 t438).bind fun bt441 => (if bt441.2 = 0 then ((nat_Of.f kj1 1).bind fun t445 => ((rat_Make.f kj1 bt441.1 t445).bind fun bt448 => (some (bt448.1, bt448.2.1, bt448.2.2)))) else (none)))) else ((approx_power.f (wrap64 (-(wrap64 (t433 - 53))))).bind fun t455 => ((rat_Make.f kj1 t435 t455).bind fun bt458 => (some (bt458.1, bt458.2.1, bt458.2.2))))) = some (r1, r2, r3) := H
            have A19 := Aside0.mk A190
            clear A190
            by_cases c20 : (wrap64 (t433 - 53)) ≥ 0
            · rw [if_pos c20] at H
              have c20b0 : decide (0 ≤ (wrap64 (t433 - 53))) = true := decide_eq_true c20
              clear c20
              replace H := Option.bind_eq_some_iff.mp H
              obtain ⟨t438, A210, H⟩ := H
              replace H : ((nat_Mul.f kj1 t435 t438).bind fun bt441 => (if bt441.2 = 0 then ((nat_Of.f kj1 1).bind fun t445 => ((rat_Make.f kj1 bt441.1 t445).bind fun bt448 => (some (bt448.1, bt448.2.1, bt448.2.2)))) else (none))) = some (r1, r2, r3) := H
              have A21 := Aside0.mk A210
              clear A210
              replace H := Option.bind_eq_some_iff.mp H
              obtain ⟨⟨t441, t442⟩, A220, H⟩ := H
              replace H : (if t442 = 0 then ((nat_Of.f kj1 1).bind fun t445 => ((rat_Make.f kj1 t441 t445).bind fun bt448 => (some (bt448.1, bt448.2.1, bt448.2.2)))) else (none)) = some (r1, r2, r3) := H
              have A22 := Aside0.mk A220
              clear A220
              by_cases c23 : t442 = 0
              · rw [if_pos c23] at H
                have c23b0 : (t442 == 0) = true := beq_iff_eq.mpr c23
                have c23b1 : (t442 != 0) = false := bne_eq_false_iff_eq.mpr c23
                clear c23
                replace H := Option.bind_eq_some_iff.mp H
                obtain ⟨t445, A240, H⟩ := H
                replace H : ((rat_Make.f kj1 t441 t445).bind fun bt448 => (some (bt448.1, bt448.2.1, bt448.2.2))) = some (r1, r2, r3) := H
                have A24 := Aside0.mk A240
                clear A240
                replace H := Option.bind_eq_some_iff.mp H
                obtain ⟨⟨t448, t451, t454⟩, A250, H⟩ := H
                replace H : (some (t448, t451, t454)) = some (r1, r2, r3) := H
                have A25 := Aside0.mk A250
                clear A250
                simp only [Option.some.injEq, Prod.mk.injEq] at H
                obtain ⟨rfl, rfl, rfl⟩ := H
                go_wp2_with (first | ((with_reducible refine gate_callee (f := 33) rfl ?_); refine goesL_ (some 25) rfl rfl Tryd.func33 (by kernel_rfl) rfl #[.float .f64 a0] rfl (by (try simp only [List.map_toArray, List.map_cons, List.map_nil]); first | done | rfl | (simp only [List.length_drop, List.length_take]; rfl)) ?_; (with_reducible refine (math_Frexp.calls a0 t432 t433 _ A16.out).mono ?_); rintro e w' ⟨rfl, ⟨nd, rfl⟩⟩; refine ⟨_, rfl, ?_⟩; (try (rw [drewN_self wc]; generalize hq_ : World.drewN wc _ = wc; have n0_ : Aside0 (wc.heap[gb423]? = some (.cells #[.slice none 0 0, .slice none 0 0] 25 (0, 0))) := ⟨by rw [← hq_]; exact (by (with_reducible repeat (first | refine blk_drewN ?_ _ | refine blk_drew ?_ | refine blk_alloc ?_ _)); exact BK423.out)⟩; have n1_ : Aside0 (Below w.heap.size w wc) := ⟨by rw [← hq_]; exact (by repeat (first | (with_reducible first | exact HB.out | apply below_alloc | apply pw_below_drewN | apply below_drew1 | refine below_set ?_ GE423.out) | exact HB.out))⟩; clear BK423 HB hq_; have BK423 := n0_; have HB := n1_; clear n0_ n1_))) | ((with_reducible refine gate_callee (f := 29) rfl ?_); refine goesL_ (some 29) rfl rfl Tryd.func29 (by kernel_rfl) rfl #[.float .f64 t432, .int .i64 53] rfl (by (try simp only [List.map_toArray, List.map_cons, List.map_nil]); first | done | rfl | (simp only [List.length_drop, List.length_take]; rfl)) ?_; (with_reducible refine (math_Ldexp.calls t432 53 t434 _ A17.out).mono ?_); rintro e w' ⟨rfl, ⟨nd, rfl⟩⟩; refine ⟨_, rfl, ?_⟩; (try (rw [drewN_self wc]; generalize hq_ : World.drewN wc _ = wc; have n0_ : Aside0 (wc.heap[gb423]? = some (.cells #[.slice none 0 0, .slice none 0 0] 25 (0, 0))) := ⟨by rw [← hq_]; exact (by (with_reducible repeat (first | refine blk_drewN ?_ _ | refine blk_drew ?_ | refine blk_alloc ?_ _)); exact BK423.out)⟩; have n1_ : Aside0 (Below w.heap.size w wc) := ⟨by rw [← hq_]; exact (by repeat (first | (with_reducible first | exact HB.out | apply below_alloc | apply pw_below_drewN | apply below_drew1 | refine below_set ?_ GE423.out) | exact HB.out))⟩; clear BK423 HB hq_; have BK423 := n0_; have HB := n1_; clear n0_ n1_))) | ((with_reducible refine gate_callee (f := 34) rfl ?_); refine goesL_ (some 31) rfl rfl Tryd.func34 (by kernel_rfl) rfl #[.int .u64 ((floatToIntVal .f64 t434 .u64).getD 0)] rfl (by (try simp only [List.map_toArray, List.map_cons, List.map_nil]); first | done | rfl | (simp only [List.length_drop, List.length_take]; rfl)) ?_; (with_reducible refine (nat_Of.calls kj1 ((floatToIntVal .f64 t434 .u64).getD 0) t435 _ A19.out).mono ?_); rintro e w26 ⟨v436, rfl, ho0, hb⟩; refine ⟨_, rfl, ?_⟩; have n0_ := Aside0.mk (Kd.R_lower ho0 (below_size (by repeat (first | (with_reducible first | exact HB.out | apply below_alloc | apply pw_below_drewN | apply below_drew1 | refine below_set ?_ GE423.out) | exact HB.out)))); have n1_ := Aside0.mk (blk_below (g := gb423) (o := .cells #[.slice none 0 0, .slice none 0 0] 25 (0, 0)) (by (with_reducible repeat (first | refine blk_drewN ?_ _ | refine blk_drew ?_ | refine blk_alloc ?_ _)); exact BK423.out) hb); have n2_ := Aside0.mk (below_step (by repeat (first | (with_reducible first | exact HB.out | apply below_alloc | apply pw_below_drewN | apply below_drew1 | refine below_set ?_ GE423.out) | exact HB.out)) hb); clear BK423; clear HB; have HO437 := n0_; have BK423 := n1_; have HB := n2_; clear n0_ n1_ n2_; (try clear hb); (try clear hb2); (try clear hk); (try clear hi); (try clear ho0)) | ((with_reducible refine gate_callee (f := 36) rfl ?_); refine goesL_ (some 39) rfl rfl Tryd.func36 (by kernel_rfl) rfl #[.int .i64 (wrap64 (t433 - 53))] rfl (by (try simp only [List.map_toArray, List.map_cons, List.map_nil]); first | done | rfl | (simp only [List.length_drop, List.length_take]; rfl)) ?_; (with_reducible refine (approx_power.calls (wrap64 (t433 - 53)) t438 _ A21.out).mono ?_); rintro e w27 ⟨v439, rfl, ho0, hb⟩; refine ⟨_, rfl, ?_⟩; have n0_ := Aside0.mk (Kd.R_elder' (by (with_reducible repeat (first | apply Kd.R_alloc | apply Kd.R_drewN | apply Kd.R_drew)); exact HO437.out) (Kd.R_base ho0) hb); have n1_ := Aside0.mk (Kd.R_lower (Kd.R_new' ho0 (Kd.R_lt (by (with_reducible repeat (first | apply Kd.R_alloc | apply Kd.R_drewN | apply Kd.R_drew)); exact HO437.out))) (below_size (by repeat (first | (with_reducible first | exact HB.out | apply below_alloc | apply pw_below_drewN | apply below_drew1 | refine below_set ?_ GE423.out) | exact HB.out)))); have n2_ := Aside0.mk (blk_below (g := gb423) (o := .cells #[.slice none 0 0, .slice none 0 0] 25 (0, 0)) (by (with_reducible repeat (first | refine blk_drewN ?_ _ | refine blk_drew ?_ | refine blk_alloc ?_ _)); exact BK423.out) hb); have n3_ := Aside0.mk (below_step (by repeat (first | (with_reducible first | exact HB.out | apply below_alloc | apply pw_below_drewN | apply below_drew1 | refine below_set ?_ GE423.out) | exact HB.out)) hb); clear HO437; clear BK423; clear HB; have HO437 := n0_; have HO440 := n1_; have BK423 := n2_; have HB := n3_; clear n0_ n1_ n2_ n3_; (try clear hb); (try clear hb2); (try clear hk); (try clear hi); (try clear ho0); obtain ⟨Ao28, co28, eo28⟩ := Kd.R_slice HO437.out; subst eo28; obtain ⟨Ao29, co29, eo29⟩ := Kd.R_slice HO440.out; subst eo29) | ((with_reducible refine gate_callee (f := 35) rfl ?_); refine goesL_ (some 40) rfl rfl Tryd.func35 (by kernel_rfl) rfl #[.slice Ao28 t435.length co28, .slice Ao29 t438.length co29] rfl (by (try simp only [List.map_toArray, List.map_cons, List.map_nil]); first | done | rfl | (simp only [List.length_drop, List.length_take]; rfl)) ?_; (with_reducible refine (nat_Mul.calls kj1 _ _ t435 _ _ t438 t441 t442 _ ?side1 ?side2 ?side3 ?side4 A22.out).mono ?_); (case side1 => repeat (first | exact (Kd.R_reads' HO437.out).2.2 | (with_reducible refine Kd.C_alloc ?_ _) | (with_reducible refine Kd.C_drewN ?_ _) | (with_reducible refine Kd.C_drew ?_))); (case side2 => exact (Kd.R_reads' HO437.out).2.1); (case side3 => repeat (first | exact (Kd.R_reads' HO440.out).2.2 | (with_reducible refine Kd.C_alloc ?_ _) | (with_reducible refine Kd.C_drewN ?_ _) | (with_reducible refine Kd.C_drew ?_))); (case side4 => exact (Kd.R_reads' HO440.out).2.1); rintro e w30 ⟨v443, rfl, ho0, hb⟩; refine ⟨_, rfl, ?_⟩; have n0_ := Aside0.mk (Kd.R_elder' (by (with_reducible repeat (first | apply Kd.R_alloc | apply Kd.R_drewN | apply Kd.R_drew)); exact HO437.out) (Kd.R_base ho0) hb); have n1_ := Aside0.mk (Kd.R_elder' (by (with_reducible repeat (first | apply Kd.R_alloc | apply Kd.R_drewN | apply Kd.R_drew)); exact HO440.out) (Kd.R_base ho0) hb); have n2_ := Aside0.mk (Kd.R_lower (Kd.R_new' (Kd.R_new' ho0 (Kd.R_lt (by (with_reducible repeat (first | apply Kd.R_alloc | apply Kd.R_drewN | apply Kd.R_drew)); exact HO437.out))) (Kd.R_lt (by (with_reducible repeat (first | apply Kd.R_alloc | apply Kd.R_drewN | apply Kd.R_drew)); exact HO440.out))) (below_size (by repeat (first | (with_reducible first | exact HB.out | apply below_alloc | apply pw_below_drewN | apply below_drew1 | refine below_set ?_ GE423.out) | exact HB.out)))); have n3_ := Aside0.mk (blk_below (g := gb423) (o := .cells #[.slice none 0 0, .slice none 0 0] 25 (0, 0)) (by (with_reducible repeat (first | refine blk_drewN ?_ _ | refine blk_drew ?_ | refine blk_alloc ?_ _)); exact BK423.out) hb); have n4_ := Aside0.mk (below_step (by repeat (first | (with_reducible first | exact HB.out | apply below_alloc | apply pw_below_drewN | apply below_drew1 | refine below_set ?_ GE423.out) | exact HB.out)) hb); clear HO437; clear HO440; clear BK423; clear HB; have HO437 := n0_; have HO440 := n1_; have HO444 := n2_; have BK423 := n3_; have HB := n4_; clear n0_ n1_ n2_ n3_ n4_; (try clear hb); (try clear hb2); (try clear hk); (try clear hi); (try clear ho0)) | ((with_reducible refine gate_callee (f := 34) rfl ?_); refine goesL_ (some 48) rfl rfl Tryd.func34 (by kernel_rfl) rfl #[.int .u64 1] rfl (by (try simp only [List.map_toArray, List.map_cons, List.map_nil]); first | done | rfl | (simp only [List.length_drop, List.length_take]; rfl)) ?_; (with_reducible refine (nat_Of.calls kj1 1 t445 _ A24.out).mono ?_); rintro e w31 ⟨v446, rfl, ho0, hb⟩; refine ⟨_, rfl, ?_⟩; have n0_ := Aside0.mk (Kd.R_elder' (by (with_reducible repeat (first | apply Kd.R_alloc | apply Kd.R_drewN | apply Kd.R_drew)); exact HO437.out) (Kd.R_base ho0) hb); have n1_ := Aside0.mk (Kd.R_elder' (by (with_reducible repeat (first | apply Kd.R_alloc | apply Kd.R_drewN | apply Kd.R_drew)); exact HO440.out) (Kd.R_base ho0) hb); have n2_ := Aside0.mk (Kd.R_elder' (by (with_reducible repeat (first | apply Kd.R_alloc | apply Kd.R_drewN | apply Kd.R_drew)); exact HO444.out) (Kd.R_base ho0) hb); have n3_ := Aside0.mk (Kd.R_lower (Kd.R_new' (Kd.R_new' (Kd.R_new' ho0 (Kd.R_lt (by (with_reducible repeat (first | apply Kd.R_alloc | apply Kd.R_drewN | apply Kd.R_drew)); exact HO437.out))) (Kd.R_lt (by (with_reducible repeat (first | apply Kd.R_alloc | apply Kd.R_drewN | apply Kd.R_drew)); exact HO440.out))) (Kd.R_lt (by (with_reducible repeat (first | apply Kd.R_alloc | apply Kd.R_drewN | apply Kd.R_drew)); exact HO444.out))) (below_size (by repeat (first | (with_reducible first | exact HB.out | apply below_alloc | apply pw_below_drewN | apply below_drew1 | refine below_set ?_ GE423.out) | exact HB.out)))); have n4_ := Aside0.mk (blk_below (g := gb423) (o := .cells #[.slice none 0 0, .slice none 0 0] 25 (0, 0)) (by (with_reducible repeat (first | refine blk_drewN ?_ _ | refine blk_drew ?_ | refine blk_alloc ?_ _)); exact BK423.out) hb); have n5_ := Aside0.mk (below_step (by repeat (first | (with_reducible first | exact HB.out | apply below_alloc | apply pw_below_drewN | apply below_drew1 | refine below_set ?_ GE423.out) | exact HB.out)) hb); clear HO437; clear HO440; clear HO444; clear BK423; clear HB; have HO437 := n0_; have HO440 := n1_; have HO444 := n2_; have HO447 := n3_; have BK423 := n4_; have HB := n5_; clear n0_ n1_ n2_ n3_ n4_ n5_; (try clear hb); (try clear hb2); (try clear hk); (try clear hi); (try clear ho0); obtain ⟨Ao32, co32, eo32⟩ := Kd.R_slice HO444.out; subst eo32; obtain ⟨Ao33, co33, eo33⟩ := Kd.R_slice HO447.out; subst eo33) | ((with_reducible refine gate_callee (f := 37) rfl ?_); refine goesL_ (some 49) rfl rfl Tryd.func37 (by kernel_rfl) rfl #[.slice Ao32 t441.length co32, .slice Ao33 t445.length co33] rfl (by (try simp only [List.map_toArray, List.map_cons, List.map_nil]); first | done | rfl | (simp only [List.length_drop, List.length_take]; rfl)) ?_; (with_reducible refine (rat_Make.calls kj1 _ _ t441 _ _ t445 t448 t451 t454 _ ?side1 ?side2 ?side3 ?side4 A25.out).mono ?_); (case side1 => repeat (first | exact (Kd.R_reads' HO444.out).2.2 | (with_reducible refine Kd.C_alloc ?_ _) | (with_reducible refine Kd.C_drewN ?_ _) | (with_reducible refine Kd.C_drew ?_))); (case side2 => exact (Kd.R_reads' HO444.out).2.1); (case side3 => repeat (first | exact (Kd.R_reads' HO447.out).2.2 | (with_reducible refine Kd.C_alloc ?_ _) | (with_reducible refine Kd.C_drewN ?_ _) | (with_reducible refine Kd.C_drew ?_))); (case side4 => exact (Kd.R_reads' HO447.out).2.1); rintro e w34 ⟨v449, v452, rfl, ho0, ho1, hb⟩; refine ⟨_, rfl, ?_⟩; have n0_ := Aside0.mk (Kd.R_mono (Kd.R_told (Kd.R_told (Kd.R_old (by (with_reducible repeat (first | apply Kd.R_alloc | apply Kd.R_drewN | apply Kd.R_drew)); exact HO437.out) hb) (Kd.R_base ho0)) (Kd.R_base ho1)) (fun _ h_ => h_.1)); have n1_ := Aside0.mk (Kd.R_mono (Kd.R_told (Kd.R_told (Kd.R_old (by (with_reducible repeat (first | apply Kd.R_alloc | apply Kd.R_drewN | apply Kd.R_drew)); exact HO440.out) hb) (Kd.R_base ho0)) (Kd.R_base ho1)) (fun _ h_ => h_.1)); have n2_ := Aside0.mk (Kd.R_mono (Kd.R_told (Kd.R_told (Kd.R_old (by (with_reducible repeat (first | apply Kd.R_alloc | apply Kd.R_drewN | apply Kd.R_drew)); exact HO444.out) hb) (Kd.R_base ho0)) (Kd.R_base ho1)) (fun _ h_ => h_.1)); have n3_ := Aside0.mk (Kd.R_mono (Kd.R_told (Kd.R_told (Kd.R_old (by (with_reducible repeat (first | apply Kd.R_alloc | apply Kd.R_drewN | apply Kd.R_drew)); exact HO447.out) hb) (Kd.R_base ho0)) (Kd.R_base ho1)) (fun _ h_ => h_.1)); have n4_ := Aside0.mk (Kd.R_lower (Kd.R_new' (Kd.R_new' (Kd.R_new' (Kd.R_new' ho0 (Kd.R_lt (by (with_reducible repeat (first | apply Kd.R_alloc | apply Kd.R_drewN | apply Kd.R_drew)); exact HO437.out))) (Kd.R_lt (by (with_reducible repeat (first | apply Kd.R_alloc | apply Kd.R_drewN | apply Kd.R_drew)); exact HO440.out))) (Kd.R_lt (by (with_reducible repeat (first | apply Kd.R_alloc | apply Kd.R_drewN | apply Kd.R_drew)); exact HO444.out))) (Kd.R_lt (by (with_reducible repeat (first | apply Kd.R_alloc | apply Kd.R_drewN | apply Kd.R_drew)); exact HO447.out))) (below_size (by repeat (first | (with_reducible first | exact HB.out | apply below_alloc | apply pw_below_drewN | apply below_drew1 | refine below_set ?_ GE423.out) | exact HB.out)))); have n5_ := Aside0.mk (Kd.R_lower (Kd.R_new' (Kd.R_new' (Kd.R_new' (Kd.R_new' ho1 (Kd.R_lt (by (with_reducible repeat (first | apply Kd.R_alloc | apply Kd.R_drewN | apply Kd.R_drew)); exact HO437.out))) (Kd.R_lt (by (with_reducible repeat (first | apply Kd.R_alloc | apply Kd.R_drewN | apply Kd.R_drew)); exact HO440.out))) (Kd.R_lt (by (with_reducible repeat (first | apply Kd.R_alloc | apply Kd.R_drewN | apply Kd.R_drew)); exact HO444.out))) (Kd.R_lt (by (with_reducible repeat (first | apply Kd.R_alloc | apply Kd.R_drewN | apply Kd.R_drew)); exact HO447.out))) (below_size (by repeat (first | (with_reducible first | exact HB.out | apply below_alloc | apply pw_below_drewN | apply below_drew1 | refine below_set ?_ GE423.out) | exact HB.out)))); have n6_ := Aside0.mk (blk_below (g := gb423) (o := .cells #[.slice none 0 0, .slice none 0 0] 25 (0, 0)) (by (with_reducible repeat (first | refine blk_drewN ?_ _ | refine blk_drew ?_ | refine blk_alloc ?_ _)); exact BK423.out) hb); have n7_ := Aside0.mk (below_step (by repeat (first | (with_reducible first | exact HB.out | apply below_alloc | apply pw_below_drewN | apply below_drew1 | refine below_set ?_ GE423.out) | exact HB.out)) hb); clear HO437; clear HO440; clear HO444; clear HO447; clear BK423; clear HB; have HO437 := n0_; have HO440 := n1_; have HO444 := n2_; have HO447 := n3_; have HO450 := n4_; have HO453 := n5_; have BK423 := n6_; have HB := n7_; clear n0_ n1_ n2_ n3_ n4_ n5_ n6_ n7_; (try clear hb); (try clear hb2); (try clear hk); (try clear hi); (try clear ho0); (try clear ho1); obtain ⟨Ao35, co35, eo35⟩ := Kd.R_slice HO450.out; subst eo35; have hcz36_0 : w34.cell? ⟨gb423, 0, none⟩ = some (.slice none 0 0) := (blk_cell BK423.out 0).trans rfl; have hcz36_1 : w34.cell? ⟨gb423, 1, none⟩ = some (.slice none 0 0) := (blk_cell BK423.out 1).trans rfl; have hfz36_0 := blk_frozen BK423.out 0; have hfz36_1 := blk_frozen BK423.out 1; obtain ⟨Ao37, co37, eo37⟩ := Kd.R_slice HO453.out; subst eo37))
                refine bodyPost_ret (results_ct rfl _ _ gb423 25 #[.slice Ao35 t448.length co35, .slice Ao37 t451.length co37] (0, 0) _ rfl (by (with_reducible repeat (first | refine blk_drewN ?_ _ | refine blk_drew ?_ | refine blk_alloc ?_ _)); refine blk_put (cs := #[.slice Ao35 t448.length co35, .slice none 0 0]) ?_ 1 _ rfl; (with_reducible repeat (first | refine blk_drewN ?_ _ | refine blk_drew ?_ | refine blk_alloc ?_ _)); refine blk_put (cs := #[.slice none 0 0, .slice none 0 0]) ?_ 0 _ rfl; (with_reducible repeat (first | refine blk_drewN ?_ _ | refine blk_drew ?_ | refine blk_alloc ?_ _)); exact BK423.out) Tryd.underlying25 rfl (by kernel_rfl)) rfl ?_
                exact ⟨_, _, by first | rfl | (simp [errW_none, errW_some] <;> rfl) | (simp [*, errW_none, errW_some] <;> rfl), by (with_reducible repeat (first | apply Kd.R_alloc | apply Kd.R_drewN | apply Kd.R_drew)); exact Kd.R_mono (Kd.R_far (p := ⟨gb423, 1, none⟩) (Kd.R_far (p := ⟨gb423, 0, none⟩) (Kd.R_types HO450.out BK423.out (by decide)) (fun _ hk => hk.2) (.slice Ao35 t448.length co35)) (fun _ hk => hk.2) (.slice Ao37 t451.length co37)) (fun _ hk => hk.1.1.1.1.1), by (with_reducible repeat (first | apply Kd.R_alloc | apply Kd.R_drewN | apply Kd.R_drew)); exact Kd.R_mono (Kd.R_far (p := ⟨gb423, 1, none⟩) (Kd.R_far (p := ⟨gb423, 0, none⟩) (Kd.R_types HO453.out BK423.out (by decide)) (fun _ hk => hk.2) (.slice Ao35 t448.length co35)) (fun _ hk => hk.2) (.slice Ao37 t451.length co37)) (fun _ hk => hk.1.1.1.1.1), by repeat (first | (with_reducible first | exact HB.out | apply below_alloc | apply pw_below_drewN | apply below_drew1 | refine below_set ?_ GE423.out) | exact HB.out)⟩
              · rw [if_neg c23] at H
                exact absurd H (by simp)
            · rw [if_neg c20] at H
              have c20b0 : decide (0 ≤ (wrap64 (t433 - 53))) = false := decide_eq_false c20
              clear c20
              replace H := Option.bind_eq_some_iff.mp H
              obtain ⟨t455, A380, H⟩ := H
              replace H : ((rat_Make.f kj1 t435 t455).bind fun bt458 => (some (bt458.1, bt458.2.1, bt458.2.2))) = some (r1, r2, r3) := H
              have A38 := Aside0.mk A380
              clear A380
              replace H := Option.bind_eq_some_iff.mp H
              obtain ⟨⟨t458, t461, t464⟩, A390, H⟩ := H
              replace H : (some (t458, t461, t464)) = some (r1, r2, r3) := H
              have A39 := Aside0.mk A390
              clear A390
              simp only [Option.some.injEq, Prod.mk.injEq] at H
              obtain ⟨rfl, rfl, rfl⟩ := H
              go_wp2_with (first | ((with_reducible refine gate_callee (f := 33) rfl ?_); refine goesL_ (some 25) rfl rfl Tryd.func33 (by kernel_rfl) rfl #[.float .f64 a0] rfl (by (try simp only [List.map_toArray, List.map_cons, List.map_nil]); first | done | rfl | (simp only [List.length_drop, List.length_take]; rfl)) ?_; (with_reducible refine (math_Frexp.calls a0 t432 t433 _ A16.out).mono ?_); rintro e w' ⟨rfl, ⟨nd, rfl⟩⟩; refine ⟨_, rfl, ?_⟩; (try (rw [drewN_self wc]; generalize hq_ : World.drewN wc _ = wc; have n0_ : Aside0 (wc.heap[gb423]? = some (.cells #[.slice none 0 0, .slice none 0 0] 25 (0, 0))) := ⟨by rw [← hq_]; exact (by (with_reducible repeat (first | refine blk_drewN ?_ _ | refine blk_drew ?_ | refine blk_alloc ?_ _)); exact BK423.out)⟩; have n1_ : Aside0 (Below w.heap.size w wc) := ⟨by rw [← hq_]; exact (by repeat (first | (with_reducible first | exact HB.out | apply below_alloc | apply pw_below_drewN | apply below_drew1 | refine below_set ?_ GE423.out) | exact HB.out))⟩; clear BK423 HB hq_; have BK423 := n0_; have HB := n1_; clear n0_ n1_))) | ((with_reducible refine gate_callee (f := 29) rfl ?_); refine goesL_ (some 29) rfl rfl Tryd.func29 (by kernel_rfl) rfl #[.float .f64 t432, .int .i64 53] rfl (by (try simp only [List.map_toArray, List.map_cons, List.map_nil]); first | done | rfl | (simp only [List.length_drop, List.length_take]; rfl)) ?_; (with_reducible refine (math_Ldexp.calls t432 53 t434 _ A17.out).mono ?_); rintro e w' ⟨rfl, ⟨nd, rfl⟩⟩; refine ⟨_, rfl, ?_⟩; (try (rw [drewN_self wc]; generalize hq_ : World.drewN wc _ = wc; have n0_ : Aside0 (wc.heap[gb423]? = some (.cells #[.slice none 0 0, .slice none 0 0] 25 (0, 0))) := ⟨by rw [← hq_]; exact (by (with_reducible repeat (first | refine blk_drewN ?_ _ | refine blk_drew ?_ | refine blk_alloc ?_ _)); exact BK423.out)⟩; have n1_ : Aside0 (Below w.heap.size w wc) := ⟨by rw [← hq_]; exact (by repeat (first | (with_reducible first | exact HB.out | apply below_alloc | apply pw_below_drewN | apply below_drew1 | refine below_set ?_ GE423.out) | exact HB.out))⟩; clear BK423 HB hq_; have BK423 := n0_; have HB := n1_; clear n0_ n1_))) | ((with_reducible refine gate_callee (f := 34) rfl ?_); refine goesL_ (some 31) rfl rfl Tryd.func34 (by kernel_rfl) rfl #[.int .u64 ((floatToIntVal .f64 t434 .u64).getD 0)] rfl (by (try simp only [List.map_toArray, List.map_cons, List.map_nil]); first | done | rfl | (simp only [List.length_drop, List.length_take]; rfl)) ?_; (with_reducible refine (nat_Of.calls kj1 ((floatToIntVal .f64 t434 .u64).getD 0) t435 _ A19.out).mono ?_); rintro e w40 ⟨v436, rfl, ho0, hb⟩; refine ⟨_, rfl, ?_⟩; have n0_ := Aside0.mk (Kd.R_lower ho0 (below_size (by repeat (first | (with_reducible first | exact HB.out | apply below_alloc | apply pw_below_drewN | apply below_drew1 | refine below_set ?_ GE423.out) | exact HB.out)))); have n1_ := Aside0.mk (blk_below (g := gb423) (o := .cells #[.slice none 0 0, .slice none 0 0] 25 (0, 0)) (by (with_reducible repeat (first | refine blk_drewN ?_ _ | refine blk_drew ?_ | refine blk_alloc ?_ _)); exact BK423.out) hb); have n2_ := Aside0.mk (below_step (by repeat (first | (with_reducible first | exact HB.out | apply below_alloc | apply pw_below_drewN | apply below_drew1 | refine below_set ?_ GE423.out) | exact HB.out)) hb); clear BK423; clear HB; have HO437 := n0_; have BK423 := n1_; have HB := n2_; clear n0_ n1_ n2_; (try clear hb); (try clear hb2); (try clear hk); (try clear hi); (try clear ho0)) | ((with_reducible refine gate_callee (f := 36) rfl ?_); refine goesL_ (some 55) rfl rfl Tryd.func36 (by kernel_rfl) rfl #[.int .i64 (wrap64 (-(wrap64 (t433 - 53))))] rfl (by (try simp only [List.map_toArray, List.map_cons, List.map_nil]); first | done | rfl | (simp only [List.length_drop, List.length_take]; rfl)) ?_; (with_reducible refine (approx_power.calls (wrap64 (-(wrap64 (t433 - 53)))) t455 _ A38.out).mono ?_); rintro e w41 ⟨v456, rfl, ho0, hb⟩; refine ⟨_, rfl, ?_⟩; have n0_ := Aside0.mk (Kd.R_elder' (by (with_reducible repeat (first | apply Kd.R_alloc | apply Kd.R_drewN | apply Kd.R_drew)); exact HO437.out) (Kd.R_base ho0) hb); have n1_ := Aside0.mk (Kd.R_lower (Kd.R_new' ho0 (Kd.R_lt (by (with_reducible repeat (first | apply Kd.R_alloc | apply Kd.R_drewN | apply Kd.R_drew)); exact HO437.out))) (below_size (by repeat (first | (with_reducible first | exact HB.out | apply below_alloc | apply pw_below_drewN | apply below_drew1 | refine below_set ?_ GE423.out) | exact HB.out)))); have n2_ := Aside0.mk (blk_below (g := gb423) (o := .cells #[.slice none 0 0, .slice none 0 0] 25 (0, 0)) (by (with_reducible repeat (first | refine blk_drewN ?_ _ | refine blk_drew ?_ | refine blk_alloc ?_ _)); exact BK423.out) hb); have n3_ := Aside0.mk (below_step (by repeat (first | (with_reducible first | exact HB.out | apply below_alloc | apply pw_below_drewN | apply below_drew1 | refine below_set ?_ GE423.out) | exact HB.out)) hb); clear HO437; clear BK423; clear HB; have HO437 := n0_; have HO457 := n1_; have BK423 := n2_; have HB := n3_; clear n0_ n1_ n2_ n3_; (try clear hb); (try clear hb2); (try clear hk); (try clear hi); (try clear ho0); obtain ⟨Ao42, co42, eo42⟩ := Kd.R_slice HO437.out; subst eo42; obtain ⟨Ao43, co43, eo43⟩ := Kd.R_slice HO457.out; subst eo43) | ((with_reducible refine gate_callee (f := 37) rfl ?_); refine goesL_ (some 56) rfl rfl Tryd.func37 (by kernel_rfl) rfl #[.slice Ao42 t435.length co42, .slice Ao43 t455.length co43] rfl (by (try simp only [List.map_toArray, List.map_cons, List.map_nil]); first | done | rfl | (simp only [List.length_drop, List.length_take]; rfl)) ?_; (with_reducible refine (rat_Make.calls kj1 _ _ t435 _ _ t455 t458 t461 t464 _ ?side1 ?side2 ?side3 ?side4 A39.out).mono ?_); (case side1 => repeat (first | exact (Kd.R_reads' HO437.out).2.2 | (with_reducible refine Kd.C_alloc ?_ _) | (with_reducible refine Kd.C_drewN ?_ _) | (with_reducible refine Kd.C_drew ?_))); (case side2 => exact (Kd.R_reads' HO437.out).2.1); (case side3 => repeat (first | exact (Kd.R_reads' HO457.out).2.2 | (with_reducible refine Kd.C_alloc ?_ _) | (with_reducible refine Kd.C_drewN ?_ _) | (with_reducible refine Kd.C_drew ?_))); (case side4 => exact (Kd.R_reads' HO457.out).2.1); rintro e w44 ⟨v459, v462, rfl, ho0, ho1, hb⟩; refine ⟨_, rfl, ?_⟩; have n0_ := Aside0.mk (Kd.R_mono (Kd.R_told (Kd.R_told (Kd.R_old (by (with_reducible repeat (first | apply Kd.R_alloc | apply Kd.R_drewN | apply Kd.R_drew)); exact HO437.out) hb) (Kd.R_base ho0)) (Kd.R_base ho1)) (fun _ h_ => h_.1)); have n1_ := Aside0.mk (Kd.R_mono (Kd.R_told (Kd.R_told (Kd.R_old (by (with_reducible repeat (first | apply Kd.R_alloc | apply Kd.R_drewN | apply Kd.R_drew)); exact HO457.out) hb) (Kd.R_base ho0)) (Kd.R_base ho1)) (fun _ h_ => h_.1)); have n2_ := Aside0.mk (Kd.R_lower (Kd.R_new' (Kd.R_new' ho0 (Kd.R_lt (by (with_reducible repeat (first | apply Kd.R_alloc | apply Kd.R_drewN | apply Kd.R_drew)); exact HO437.out))) (Kd.R_lt (by (with_reducible repeat (first | apply Kd.R_alloc | apply Kd.R_drewN | apply Kd.R_drew)); exact HO457.out))) (below_size (by repeat (first | (with_reducible first | exact HB.out | apply below_alloc | apply pw_below_drewN | apply below_drew1 | refine below_set ?_ GE423.out) | exact HB.out)))); have n3_ := Aside0.mk (Kd.R_lower (Kd.R_new' (Kd.R_new' ho1 (Kd.R_lt (by (with_reducible repeat (first | apply Kd.R_alloc | apply Kd.R_drewN | apply Kd.R_drew)); exact HO437.out))) (Kd.R_lt (by (with_reducible repeat (first | apply Kd.R_alloc | apply Kd.R_drewN | apply Kd.R_drew)); exact HO457.out))) (below_size (by repeat (first | (with_reducible first | exact HB.out | apply below_alloc | apply pw_below_drewN | apply below_drew1 | refine below_set ?_ GE423.out) | exact HB.out)))); have n4_ := Aside0.mk (blk_below (g := gb423) (o := .cells #[.slice none 0 0, .slice none 0 0] 25 (0, 0)) (by (with_reducible repeat (first | refine blk_drewN ?_ _ | refine blk_drew ?_ | refine blk_alloc ?_ _)); exact BK423.out) hb); have n5_ := Aside0.mk (below_step (by repeat (first | (with_reducible first | exact HB.out | apply below_alloc | apply pw_below_drewN | apply below_drew1 | refine below_set ?_ GE423.out) | exact HB.out)) hb); clear HO437; clear HO457; clear BK423; clear HB; have HO437 := n0_; have HO457 := n1_; have HO460 := n2_; have HO463 := n3_; have BK423 := n4_; have HB := n5_; clear n0_ n1_ n2_ n3_ n4_ n5_; (try clear hb); (try clear hb2); (try clear hk); (try clear hi); (try clear ho0); (try clear ho1); obtain ⟨Ao45, co45, eo45⟩ := Kd.R_slice HO460.out; subst eo45; have hcz46_0 : w44.cell? ⟨gb423, 0, none⟩ = some (.slice none 0 0) := (blk_cell BK423.out 0).trans rfl; have hcz46_1 : w44.cell? ⟨gb423, 1, none⟩ = some (.slice none 0 0) := (blk_cell BK423.out 1).trans rfl; have hfz46_0 := blk_frozen BK423.out 0; have hfz46_1 := blk_frozen BK423.out 1; obtain ⟨Ao47, co47, eo47⟩ := Kd.R_slice HO463.out; subst eo47))
              refine bodyPost_ret (results_ct rfl _ _ gb423 25 #[.slice Ao45 t458.length co45, .slice Ao47 t461.length co47] (0, 0) _ rfl (by (with_reducible repeat (first | refine blk_drewN ?_ _ | refine blk_drew ?_ | refine blk_alloc ?_ _)); refine blk_put (cs := #[.slice Ao45 t458.length co45, .slice none 0 0]) ?_ 1 _ rfl; (with_reducible repeat (first | refine blk_drewN ?_ _ | refine blk_drew ?_ | refine blk_alloc ?_ _)); refine blk_put (cs := #[.slice none 0 0, .slice none 0 0]) ?_ 0 _ rfl; (with_reducible repeat (first | refine blk_drewN ?_ _ | refine blk_drew ?_ | refine blk_alloc ?_ _)); exact BK423.out) Tryd.underlying25 rfl (by kernel_rfl)) rfl ?_
              exact ⟨_, _, by first | rfl | (simp [errW_none, errW_some] <;> rfl) | (simp [*, errW_none, errW_some] <;> rfl), by (with_reducible repeat (first | apply Kd.R_alloc | apply Kd.R_drewN | apply Kd.R_drew)); exact Kd.R_mono (Kd.R_far (p := ⟨gb423, 1, none⟩) (Kd.R_far (p := ⟨gb423, 0, none⟩) (Kd.R_types HO460.out BK423.out (by decide)) (fun _ hk => hk.2) (.slice Ao45 t458.length co45)) (fun _ hk => hk.2) (.slice Ao47 t461.length co47)) (fun _ hk => hk.1.1.1), by (with_reducible repeat (first | apply Kd.R_alloc | apply Kd.R_drewN | apply Kd.R_drew)); exact Kd.R_mono (Kd.R_far (p := ⟨gb423, 1, none⟩) (Kd.R_far (p := ⟨gb423, 0, none⟩) (Kd.R_types HO463.out BK423.out (by decide)) (fun _ hk => hk.2) (.slice Ao45 t458.length co45)) (fun _ hk => hk.2) (.slice Ao47 t461.length co47)) (fun _ hk => hk.1.1.1), by repeat (first | (with_reducible first | exact HB.out | apply below_alloc | apply pw_below_drewN | apply below_drew1 | refine below_set ?_ GE423.out) | exact HB.out)⟩
          · rw [if_neg c18] at H
            exact absurd H (by simp)

/-! ### rat_both: function 39 -/
def rat_both.f (k : Nat) (l0_0 : List Int) (l0_1 : List Int) (l1_0 : List Int) (l1_1 : List Int) : Option (Int) := (rat_Right.f k l0_0 l0_1).bind fun t467 => (if t467 = true then ((rat_Right.f k l1_0 l1_1).bind fun t468 => (if t468 = true then (some 0) else (none))) else (none))
theorem rat_both.mono : ∀ a0 a1 a2 a3 k, LeO (rat_both.f k a0 a1 a2 a3) (rat_both.f (k + 1) a0 a1 a2 a3) := by
  intro a0 a1 a2 a3 k
  unfold rat_both.f
  repeat' first
      | (with_reducible exact rat_Right.mono _ _ _)
      | (with_reducible exact LeO.refl _)
      | (with_reducible exact LeO.none _)
      | (with_reducible refine LeO.ite ?_ ?_)
      | (with_reducible refine LeO.bind ?_ (fun _ => ?_))
      | exact rat_Right.mono _ _ _
      | exact LeO.none _
      | refine LeO.ite ?_ ?_
      | refine LeO.bind ?_ (fun _ => ?_)
set_option maxHeartbeats 8000000 in
set_option maxRecDepth 100000 in
theorem rat_both.calls (k : Nat) (A0_0 : Option Addr) (c0_0 : Nat) (l0_0 : List Int) (A0_1 : Option Addr) (c0_1 : Nat) (l0_1 : List Int) (A1_0 : Option Addr) (c1_0 : Nat) (l1_0 : List Int) (A1_1 : Option Addr) (c1_1 : Nat) (l1_1 : List Int) (r : Int) (w : World) (hr0_0 : Kd.C (Kd.int .u32) w A0_0 l0_0.length l0_0) (hc0_0 : l0_0.length ≤ c0_0) (hr0_1 : Kd.C (Kd.int .u32) w A0_1 l0_1.length l0_1) (hc0_1 : l0_1.length ≤ c0_1) (hr1_0 : Kd.C (Kd.int .u32) w A1_0 l1_0.length l1_0) (hc1_0 : l1_0.length ≤ c1_0) (hr1_1 : Kd.C (Kd.int .u32) w A1_1 l1_1.length l1_1) (hc1_1 : l1_1.length ≤ c1_1) (h : rat_both.f k l0_0 l0_1 l1_0 l1_1 = some r) :
    Calls Tryd.prog 39 #[.agg #[.slice A0_0 l0_0.length c0_0, .slice A0_1 l0_1.length c0_1], .agg #[.slice A1_0 l1_0.length c1_0, .slice A1_1 l1_1.length c1_1]] w fun e w' => e = .returned (.int .i64 r) ∧ Below w.heap.size w w' := by
  have hu25 := Tryd.underlying25
  have HR0_0 := Aside0.mk hr0_0
  have HC0_0 := Aside0.mk hc0_0
  clear hr0_0 hc0_0
  have HR0_1 := Aside0.mk hr0_1
  have HC0_1 := Aside0.mk hc0_1
  clear hr0_1 hc0_1
  have HR1_0 := Aside0.mk hr1_0
  have HC1_0 := Aside0.mk hc1_0
  clear hr1_0 hc1_0
  have HR1_1 := Aside0.mk hr1_1
  have HC1_1 := Aside0.mk hc1_1
  clear hr1_1 hc1_1
  have HB := Aside0.mk (Below.refl w.heap.size w)
  have H : ((rat_Right.f k l0_0 l0_1).bind fun t467 => (if t467 = true then ((rat_Right.f k l1_0 l1_1).bind fun t468 => (if t468 = true then (some 0) else (none))) else (none))) = some r := h
  clear h
  replace H := Option.bind_eq_some_iff.mp H
  obtain ⟨t467, A30, H⟩ := H
  replace H : (if t467 = true then ((rat_Right.f k l1_0 l1_1).bind fun t468 => (if t468 = true then (some 0) else (none))) else (none)) = some r := H
  have A3 := Aside0.mk A30
  clear A30
  by_cases c4 : t467 = true
  · subst c4
    have H1 : ((rat_Right.f k l1_0 l1_1).bind fun t468 => (if t468 = true then (some 0) else (none))) = some r := by rw [if_pos rfl] at H; exact H
    clear H
    have H := H1
    clear H1
    replace H := Option.bind_eq_some_iff.mp H
    obtain ⟨t468, A50, H⟩ := H
    replace H : (if t468 = true then (some 0) else (none)) = some r := H
    have A5 := Aside0.mk A50
    clear A50
    by_cases c6 : t468 = true
    · subst c6
      have H1 : (some 0) = some r := by rw [if_pos rfl] at H; exact H
      clear H
      have H := H1
      clear H1
      obtain rfl := Option.some.inj H
      go_enter Tryd.func39, Tryd.ntmps39
      go_wp2_with (first | ((with_reducible refine gate_dst (N := 2) rfl ?_); refine box_event ?hg (N := 2) ?hd (cs := #[.slice A0_0 l0_0.length c0_0, .slice A0_1 l0_1.length c0_1]) (t := 25) ?hr ?_; (case hd => rfl); (case hg => rfl); (case hr => first | (go_simp; done) | (go_simp; rfl)); intro gb465 hg w7 hbox hb; have n0_ := Aside0.mk (below_step (by repeat (first | (with_reducible first | exact HB.out | apply below_alloc | apply pw_below_drewN | apply below_drew1) | exact HB.out)) hb); have n1_ := Aside0.mk (hbox); have n2_ := Aside0.mk ((by rw [hg]; exact (below_size (by repeat (first | (with_reducible first | exact HB.out | apply below_alloc | apply pw_below_drewN | apply below_drew1) | exact HB.out))) : w.heap.size ≤ gb465)); have n3_ := Aside0.mk ((by rw [hg]; exact (below_size (by repeat (first | (with_reducible first | exact HB.out | apply below_alloc | apply pw_below_drewN | apply below_drew1) | exact HB.out))) : w.heap.size ≤ gb465)); clear HB; have HB := n0_; have BK465 := n1_; have GW465 := n2_; have GE465 := n3_; clear n0_ n1_ n2_ n3_; clear hb hbox hg) | ((with_reducible refine gate_dst (N := 3) rfl ?_); refine box_event ?hg (N := 3) ?hd (cs := #[.slice A1_0 l1_0.length c1_0, .slice A1_1 l1_1.length c1_1]) (t := 25) ?hr ?_; (case hd => rfl); (case hg => rfl); (case hr => first | (go_simp; done) | (go_simp; rfl)); intro gb466 hg w8 hbox hb; have n0_ := Aside0.mk (blk_below (g := gb465) (o := .cells #[.slice A0_0 l0_0.length c0_0, .slice A0_1 l0_1.length c0_1] 25 (0, 0)) (by (with_reducible repeat (first | refine blk_drewN ?_ _ | refine blk_drew ?_ | refine blk_alloc ?_ _)); exact BK465.out) hb); have n1_ := Aside0.mk (below_step (by repeat (first | (with_reducible first | exact HB.out | apply below_alloc | apply pw_below_drewN | apply below_drew1 | refine below_set ?_ GE465.out) | exact HB.out)) hb); have n2_ := Aside0.mk (hbox); have n3_ := Aside0.mk ((by rw [hg]; exact (below_size (by repeat (first | (with_reducible first | exact HB.out | apply below_alloc | apply pw_below_drewN | apply below_drew1 | refine below_set ?_ GE465.out) | exact HB.out))) : w.heap.size ≤ gb466)); have n4_ := Aside0.mk ((by rw [hg]; exact (below_size (by repeat (first | (with_reducible first | exact HB.out | apply below_alloc | apply pw_below_drewN | apply below_drew1 | refine below_set ?_ GE465.out) | exact HB.out))) : w.heap.size ≤ gb466)); have n5_ := Aside0.mk ((by rw [hg]; exact Nat.ne_of_lt (blk_lt (g := gb465) (o := .cells #[.slice A0_0 l0_0.length c0_0, .slice A0_1 l0_1.length c0_1] 25 (0, 0)) (by (with_reducible repeat (first | refine blk_drewN ?_ _ | refine blk_drew ?_ | refine blk_alloc ?_ _)); exact BK465.out)) : gb465 ≠ gb466)); have n6_ := Aside0.mk ((by rw [hg]; exact Nat.ne_of_gt (blk_lt (g := gb465) (o := .cells #[.slice A0_0 l0_0.length c0_0, .slice A0_1 l0_1.length c0_1] 25 (0, 0)) (by (with_reducible repeat (first | refine blk_drewN ?_ _ | refine blk_drew ?_ | refine blk_alloc ?_ _)); exact BK465.out)) : gb466 ≠ gb465)); clear BK465; clear HB; have BK465 := n0_; have HB := n1_; have BK466 := n2_; have GW466 := n3_; have GE466 := n4_; have NB465_466 := n5_; have NB466_465 := n6_; clear n0_ n1_ n2_ n3_ n4_ n5_ n6_; clear hb hbox hg; have hnb9 := NB465_466.out; have hnc9 := NB466_465.out; have hcz10_0 : w8.cell? ⟨gb465, 0, none⟩ = some (.slice A0_0 l0_0.length c0_0) := (blk_cell BK465.out 0).trans rfl; have hcz10_1 : w8.cell? ⟨gb465, 1, none⟩ = some (.slice A0_1 l0_1.length c0_1) := (blk_cell BK465.out 1).trans rfl; have hfz10_0 := blk_frozen BK465.out 0; have hfz10_1 := blk_frozen BK465.out 1) | ((with_reducible refine gate_callee (f := 7) rfl ?_); refine goesL_ (some 6) rfl rfl Tryd.func7 (by kernel_rfl) rfl #[.agg #[.slice A0_0 l0_0.length c0_0, .slice A0_1 l0_1.length c0_1]] rfl (by (try simp only [List.map_toArray, List.map_cons, List.map_nil]); first | done | rfl | (simp only [List.length_drop, List.length_take]; rfl)) ?_; (with_reducible refine (rat_Right.calls k _ _ l0_0 _ _ l0_1 true _ ?side1 ?side2 ?side3 ?side4 A3.out).mono ?_); (case side1 => repeat (first | exact (Kd.C_below HR0_0.out HB.out) | (with_reducible refine Kd.C_alloc ?_ _) | (with_reducible refine Kd.C_drewN ?_ _) | (with_reducible refine Kd.C_drew ?_))); (case side2 => exact HC0_0.out); (case side3 => repeat (first | exact (Kd.C_below HR0_1.out HB.out) | (with_reducible refine Kd.C_alloc ?_ _) | (with_reducible refine Kd.C_drewN ?_ _) | (with_reducible refine Kd.C_drew ?_))); (case side4 => exact HC0_1.out); rintro e w11 ⟨rfl, hb⟩; refine ⟨_, rfl, ?_⟩; have n0_ := Aside0.mk (blk_below (g := gb465) (o := .cells #[.slice A0_0 l0_0.length c0_0, .slice A0_1 l0_1.length c0_1] 25 (0, 0)) (by (with_reducible repeat (first | refine blk_drewN ?_ _ | refine blk_drew ?_ | refine blk_alloc ?_ _)); exact BK465.out) hb); have n1_ := Aside0.mk (blk_below (g := gb466) (o := .cells #[.slice A1_0 l1_0.length c1_0, .slice A1_1 l1_1.length c1_1] 25 (0, 0)) (by (with_reducible repeat (first | refine blk_drewN ?_ _ | refine blk_drew ?_ | refine blk_alloc ?_ _)); exact BK466.out) hb); have n2_ := Aside0.mk (below_step (by repeat (first | (with_reducible first | exact HB.out | apply below_alloc | apply pw_below_drewN | apply below_drew1 | refine below_set ?_ GE465.out | refine below_set ?_ GE466.out) | exact HB.out)) hb); clear BK465; clear BK466; clear HB; have BK465 := n0_; have BK466 := n1_; have HB := n2_; clear n0_ n1_ n2_; (try clear hb); (try clear hb2); (try clear hk); (try clear hi); have hcz12_0 : w11.cell? ⟨gb466, 0, none⟩ = some (.slice A1_0 l1_0.length c1_0) := (blk_cell BK466.out 0).trans rfl; have hcz12_1 : w11.cell? ⟨gb466, 1, none⟩ = some (.slice A1_1 l1_1.length c1_1) := (blk_cell BK466.out 1).trans rfl; have hfz12_0 := blk_frozen BK466.out 0; have hfz12_1 := blk_frozen BK466.out 1) | (go_at_call 7; (with_reducible refine (rat_Right.calls k _ _ l1_0 _ _ l1_1 true _ ?side1 ?side2 ?side3 ?side4 A5.out).mono ?_); (case side1 => repeat (first | exact (Kd.C_below HR1_0.out HB.out) | (with_reducible refine Kd.C_alloc ?_ _) | (with_reducible refine Kd.C_drewN ?_ _) | (with_reducible refine Kd.C_drew ?_))); (case side2 => exact HC1_0.out); (case side3 => repeat (first | exact (Kd.C_below HR1_1.out HB.out) | (with_reducible refine Kd.C_alloc ?_ _) | (with_reducible refine Kd.C_drewN ?_ _) | (with_reducible refine Kd.C_drew ?_))); (case side4 => exact HC1_1.out); rintro e w13 ⟨rfl, hb⟩; have n0_ := Aside0.mk (blk_below (g := gb465) (o := .cells #[.slice A0_0 l0_0.length c0_0, .slice A0_1 l0_1.length c0_1] 25 (0, 0)) (by (with_reducible repeat (first | refine blk_drewN ?_ _ | refine blk_drew ?_ | refine blk_alloc ?_ _)); exact BK465.out) hb); have n1_ := Aside0.mk (blk_below (g := gb466) (o := .cells #[.slice A1_0 l1_0.length c1_0, .slice A1_1 l1_1.length c1_1] 25 (0, 0)) (by (with_reducible repeat (first | refine blk_drewN ?_ _ | refine blk_drew ?_ | refine blk_alloc ?_ _)); exact BK466.out) hb); have n2_ := Aside0.mk (below_step (by repeat (first | (with_reducible first | exact HB.out | apply below_alloc | apply pw_below_drewN | apply below_drew1 | refine below_set ?_ GE465.out | refine below_set ?_ GE466.out) | exact HB.out)) hb); clear BK465; clear BK466; clear HB; have BK465 := n0_; have BK466 := n1_; have HB := n2_; clear n0_ n1_ n2_; (try clear hb); (try clear hb2); (try clear hk); (try clear hi)))
      go_ret
      exact ⟨by first | rfl | (simp [errW_none, errW_some] <;> rfl) | (simp [*, errW_none, errW_some] <;> rfl), by repeat (first | (with_reducible first | exact HB.out | apply below_alloc | apply pw_below_drewN | apply below_drew1 | refine below_set ?_ GE465.out | refine below_set ?_ GE466.out) | exact HB.out)⟩
    · replace c6 := Bool.eq_false_iff.mpr c6
      subst c6
      have H1 : (none) = some r := by rw [if_neg (show ¬ (false = true) by decide)] at H; exact H
      clear H
      have H := H1
      clear H1
      exact absurd H (by simp)
  · replace c4 := Bool.eq_false_iff.mpr c4
    subst c4
    have H1 : (none) = some r := by rw [if_neg (show ¬ (false = true) by decide)] at H; exact H
    clear H
    have H := H1
    clear H1
    exact absurd H (by simp)

/-! ### rat_cross: function 40 -/
def rat_cross.f (k : Nat) (l0_0 : List Int) (l0_1 : List Int) (l1_0 : List Int) (l1_1 : List Int) : Option (List Int × List Int × Int) := (nat_Mul.f k l0_0 l1_1).bind fun bt471 => ((nat_Mul.f k l1_0 l0_1).bind fun bt475 => (some (bt471.1, bt475.1, mx bt471.2 bt475.2)))
theorem rat_cross.mono : ∀ a0 a1 a2 a3 k, LeO (rat_cross.f k a0 a1 a2 a3) (rat_cross.f (k + 1) a0 a1 a2 a3) := by
  intro a0 a1 a2 a3 k
  unfold rat_cross.f
  repeat' first
      | (with_reducible exact nat_Mul.mono _ _ _)
      | (with_reducible exact LeO.refl _)
      | (with_reducible exact LeO.none _)
      | (with_reducible refine LeO.ite ?_ ?_)
      | (with_reducible refine LeO.bind ?_ (fun _ => ?_))
      | exact nat_Mul.mono _ _ _
      | exact LeO.none _
      | refine LeO.ite ?_ ?_
      | refine LeO.bind ?_ (fun _ => ?_)
set_option maxHeartbeats 8000000 in
set_option maxRecDepth 100000 in
theorem rat_cross.calls (k : Nat) (A0_0 : Option Addr) (c0_0 : Nat) (l0_0 : List Int) (A0_1 : Option Addr) (c0_1 : Nat) (l0_1 : List Int) (A1_0 : Option Addr) (c1_0 : Nat) (l1_0 : List Int) (A1_1 : Option Addr) (c1_1 : Nat) (l1_1 : List Int) (r1 : List Int) (r2 : List Int) (r3 : Int) (w : World) (hr0_0 : Kd.C (Kd.int .u32) w A0_0 l0_0.length l0_0) (hc0_0 : l0_0.length ≤ c0_0) (hr0_1 : Kd.C (Kd.int .u32) w A0_1 l0_1.length l0_1) (hc0_1 : l0_1.length ≤ c0_1) (hr1_0 : Kd.C (Kd.int .u32) w A1_0 l1_0.length l1_0) (hc1_0 : l1_0.length ≤ c1_0) (hr1_1 : Kd.C (Kd.int .u32) w A1_1 l1_1.length l1_1) (hc1_1 : l1_1.length ≤ c1_1) (h : rat_cross.f k l0_0 l0_1 l1_0 l1_1 = some (r1, r2, r3)) :
    Calls Tryd.prog 40 #[.agg #[.slice A0_0 l0_0.length c0_0, .slice A0_1 l0_1.length c0_1], .agg #[.slice A1_0 l1_0.length c1_0, .slice A1_1 l1_1.length c1_1]] w fun e w' => ∃ v0_ v1_ : Value, e = .returned (.tuple #[v0_, v1_, .int .i64 r3]) ∧ Kd.R (Kd.int .u32) 47 w' w.heap.size (fun k_ => some k_ ≠ (v1_ : Value).ownBlock) v0_ r1 ∧ Kd.R (Kd.int .u32) 47 w' w.heap.size (fun k_ => some k_ ≠ (v0_ : Value).ownBlock) v1_ r2 ∧ Below w.heap.size w w' := by
  have hu25 := Tryd.underlying25
  have HR0_0 := Aside0.mk hr0_0
  have HC0_0 := Aside0.mk hc0_0
  clear hr0_0 hc0_0
  have HR0_1 := Aside0.mk hr0_1
  have HC0_1 := Aside0.mk hc0_1
  clear hr0_1 hc0_1
  have HR1_0 := Aside0.mk hr1_0
  have HC1_0 := Aside0.mk hc1_0
  clear hr1_0 hc1_0
  have HR1_1 := Aside0.mk hr1_1
  have HC1_1 := Aside0.mk hc1_1
  clear hr1_1 hc1_1
  have HB := Aside0.mk (Below.refl w.heap.size w)
  have H : ((nat_Mul.f k l0_0 l1_1).bind fun bt471 => ((nat_Mul.f k l1_0 l0_1).bind fun bt475 => (some (bt471.1, bt475.1, mx bt471.2 bt475.2)))) = some (r1, r2, r3) := h
  clear h
  replace H := Option.bind_eq_some_iff.mp H
  obtain ⟨⟨t471, t472⟩, A30, H⟩ := H
  replace H : ((nat_Mul.f k l1_0 l0_1).bind fun bt475 => (some (t471, bt475.1, mx t472 bt475.2))) = some (r1, r2, r3) := H
  have A3 := Aside0.mk A30
  clear A30
  replace H := Option.bind_eq_some_iff.mp H
  obtain ⟨⟨t475, t476⟩, A40, H⟩ := H
  replace H : (some (t471, t475, mx t472 t476)) = some (r1, r2, r3) := H
  have A4 := Aside0.mk A40
  clear A40
  obtain ⟨ji5, hji5⟩ : ∃ j_ : Int, (mx t472 t476) = j_ := ⟨_, rfl⟩
  replace H : (some (t471, t475, ji5)) = some (r1, r2, r3) := by first | (rw [hji5] at H; exact H) | (simp only [hji5] at H ⊢; exact H)
  (try rw [hji5] at A3)
  (try rw [hji5] at A4)
  have hji5_ : (if t472 < t476 then t476 else t472) = ji5 := hji5
  simp only [Option.some.injEq, Prod.mk.injEq] at H
  obtain ⟨rfl, rfl, rfl⟩ := H
  go_enter Tryd.func40, Tryd.ntmps40
  go_wp2_with (first | ((with_reducible refine gate_dst (N := 2) rfl ?_); refine box_event ?hg (N := 2) ?hd (cs := #[.slice A0_0 l0_0.length c0_0, .slice A0_1 l0_1.length c0_1]) (t := 25) ?hr ?_; (case hd => rfl); (case hg => rfl); (case hr => first | (go_simp; done) | (go_simp; rfl)); intro gb469 hg w6 hbox hb; have n0_ := Aside0.mk (below_step (by repeat (first | (with_reducible first | exact HB.out | apply below_alloc | apply pw_below_drewN | apply below_drew1) | exact HB.out)) hb); have n1_ := Aside0.mk (hbox); have n2_ := Aside0.mk ((by rw [hg]; exact (below_size (by repeat (first | (with_reducible first | exact HB.out | apply below_alloc | apply pw_below_drewN | apply below_drew1) | exact HB.out))) : w.heap.size ≤ gb469)); have n3_ := Aside0.mk ((by rw [hg]; exact (below_size (by repeat (first | (with_reducible first | exact HB.out | apply below_alloc | apply pw_below_drewN | apply below_drew1) | exact HB.out))) : w.heap.size ≤ gb469)); clear HB; have HB := n0_; have BK469 := n1_; have GW469 := n2_; have GE469 := n3_; clear n0_ n1_ n2_ n3_; clear hb hbox hg) | ((with_reducible refine gate_dst (N := 3) rfl ?_); refine box_event ?hg (N := 3) ?hd (cs := #[.slice A1_0 l1_0.length c1_0, .slice A1_1 l1_1.length c1_1]) (t := 25) ?hr ?_; (case hd => rfl); (case hg => rfl); (case hr => first | (go_simp; done) | (go_simp; rfl)); intro gb470 hg w7 hbox hb; have n0_ := Aside0.mk (blk_below (g := gb469) (o := .cells #[.slice A0_0 l0_0.length c0_0, .slice A0_1 l0_1.length c0_1] 25 (0, 0)) (by (with_reducible repeat (first | refine blk_drewN ?_ _ | refine blk_drew ?_ | refine blk_alloc ?_ _)); exact BK469.out) hb); have n1_ := Aside0.mk (below_step (by repeat (first | (with_reducible first | exact HB.out | apply below_alloc | apply pw_below_drewN | apply below_drew1 | refine below_set ?_ GE469.out) | exact HB.out)) hb); have n2_ := Aside0.mk (hbox); have n3_ := Aside0.mk ((by rw [hg]; exact (below_size (by repeat (first | (with_reducible first | exact HB.out | apply below_alloc | apply pw_below_drewN | apply below_drew1 | refine below_set ?_ GE469.out) | exact HB.out))) : w.heap.size ≤ gb470)); have n4_ := Aside0.mk ((by rw [hg]; exact (below_size (by repeat (first | (with_reducible first | exact HB.out | apply below_alloc | apply pw_below_drewN | apply below_drew1 | refine below_set ?_ GE469.out) | exact HB.out))) : w.heap.size ≤ gb470)); have n5_ := Aside0.mk ((by rw [hg]; exact Nat.ne_of_lt (blk_lt (g := gb469) (o := .cells #[.slice A0_0 l0_0.length c0_0, .slice A0_1 l0_1.length c0_1] 25 (0, 0)) (by (with_reducible repeat (first | refine blk_drewN ?_ _ | refine blk_drew ?_ | refine blk_alloc ?_ _)); exact BK469.out)) : gb469 ≠ gb470)); have n6_ := Aside0.mk ((by rw [hg]; exact Nat.ne_of_gt (blk_lt (g := gb469) (o := .cells #[.slice A0_0 l0_0.length c0_0, .slice A0_1 l0_1.length c0_1] 25 (0, 0)) (by (with_reducible repeat (first | refine blk_drewN ?_ _ | refine blk_drew ?_ | refine blk_alloc ?_ _)); exact BK469.out)) : gb470 ≠ gb469)); clear BK469; clear HB; have BK469 := n0_; have HB := n1_; have BK470 := n2_; have GW470 := n3_; have GE470 := n4_; have NB469_470 := n5_; have NB470_469 := n6_; clear n0_ n1_ n2_ n3_ n4_ n5_ n6_; clear hb hbox hg; have hnb8 := NB469_470.out; have hnc8 := NB470_469.out; have hcz9_0 : w7.cell? ⟨gb469, 0, none⟩ = some (.slice A0_0 l0_0.length c0_0) := (blk_cell BK469.out 0).trans rfl; have hcz9_1 : w7.cell? ⟨gb469, 1, none⟩ = some (.slice A0_1 l0_1.length c0_1) := (blk_cell BK469.out 1).trans rfl; have hfz9_0 := blk_frozen BK469.out 0; have hfz9_1 := blk_frozen BK469.out 1; have hcz10_0 : w7.cell? ⟨gb470, 0, none⟩ = some (.slice A1_0 l1_0.length c1_0) := (blk_cell BK470.out 0).trans rfl; have hcz10_1 : w7.cell? ⟨gb470, 1, none⟩ = some (.slice A1_1 l1_1.length c1_1) := (blk_cell BK470.out 1).trans rfl; have hfz10_0 := blk_frozen BK470.out 0; have hfz10_1 := blk_frozen BK470.out 1) | ((with_reducible refine gate_callee (f := 35) rfl ?_); refine goesL_ (some 16) rfl rfl Tryd.func35 (by kernel_rfl) rfl #[.slice A0_0 l0_0.length c0_0, .slice A1_1 l1_1.length c1_1] rfl (by (try simp only [List.map_toArray, List.map_cons, List.map_nil]); first | done | rfl | (simp only [List.length_drop, List.length_take]; rfl)) ?_; (with_reducible refine (nat_Mul.calls k _ _ l0_0 _ _ l1_1 t471 t472 _ ?side1 ?side2 ?side3 ?side4 A3.out).mono ?_); (case side1 => repeat (first | exact (Kd.C_below HR0_0.out HB.out) | (with_reducible refine Kd.C_alloc ?_ _) | (with_reducible refine Kd.C_drewN ?_ _) | (with_reducible refine Kd.C_drew ?_))); (case side2 => exact HC0_0.out); (case side3 => repeat (first | exact (Kd.C_below HR1_1.out HB.out) | (with_reducible refine Kd.C_alloc ?_ _) | (with_reducible refine Kd.C_drewN ?_ _) | (with_reducible refine Kd.C_drew ?_))); (case side4 => exact HC1_1.out); rintro e w11 ⟨v473, rfl, ho0, hb⟩; refine ⟨_, rfl, ?_⟩; have n0_ := Aside0.mk (Kd.R_lower ho0 (below_size (by repeat (first | (with_reducible first | exact HB.out | apply below_alloc | apply pw_below_drewN | apply below_drew1 | refine below_set ?_ GE469.out | refine below_set ?_ GE470.out) | exact HB.out)))); have n1_ := Aside0.mk (blk_below (g := gb469) (o := .cells #[.slice A0_0 l0_0.length c0_0, .slice A0_1 l0_1.length c0_1] 25 (0, 0)) (by (with_reducible repeat (first | refine blk_drewN ?_ _ | refine blk_drew ?_ | refine blk_alloc ?_ _)); exact BK469.out) hb); have n2_ := Aside0.mk (blk_below (g := gb470) (o := .cells #[.slice A1_0 l1_0.length c1_0, .slice A1_1 l1_1.length c1_1] 25 (0, 0)) (by (with_reducible repeat (first | refine blk_drewN ?_ _ | refine blk_drew ?_ | refine blk_alloc ?_ _)); exact BK470.out) hb); have n3_ := Aside0.mk (below_step (by repeat (first | (with_reducible first | exact HB.out | apply below_alloc | apply pw_below_drewN | apply below_drew1 | refine below_set ?_ GE469.out | refine below_set ?_ GE470.out) | exact HB.out)) hb); clear BK469; clear BK470; clear HB; have HO474 := n0_; have BK469 := n1_; have BK470 := n2_; have HB := n3_; clear n0_ n1_ n2_ n3_; (try clear hb); (try clear hb2); (try clear hk); (try clear hi); (try clear ho0); have hcz12_0 : w11.cell? ⟨gb470, 0, none⟩ = some (.slice A1_0 l1_0.length c1_0) := (blk_cell BK470.out 0).trans rfl; have hcz12_1 : w11.cell? ⟨gb470, 1, none⟩ = some (.slice A1_1 l1_1.length c1_1) := (blk_cell BK470.out 1).trans rfl; have hfz12_0 := blk_frozen BK470.out 0; have hfz12_1 := blk_frozen BK470.out 1; have hcz13_0 : w11.cell? ⟨gb469, 0, none⟩ = some (.slice A0_0 l0_0.length c0_0) := (blk_cell BK469.out 0).trans rfl; have hcz13_1 : w11.cell? ⟨gb469, 1, none⟩ = some (.slice A0_1 l0_1.length c0_1) := (blk_cell BK469.out 1).trans rfl; have hfz13_0 := blk_frozen BK469.out 0; have hfz13_1 := blk_frozen BK469.out 1) | ((with_reducible refine gate_callee (f := 35) rfl ?_); refine goesL_ (some 24) rfl rfl Tryd.func35 (by kernel_rfl) rfl #[.slice A1_0 l1_0.length c1_0, .slice A0_1 l0_1.length c0_1] rfl (by (try simp only [List.map_toArray, List.map_cons, List.map_nil]); first | done | rfl | (simp only [List.length_drop, List.length_take]; rfl)) ?_; (with_reducible refine (nat_Mul.calls k _ _ l1_0 _ _ l0_1 t475 t476 _ ?side1 ?side2 ?side3 ?side4 A4.out).mono ?_); (case side1 => repeat (first | exact (Kd.C_below HR1_0.out HB.out) | (with_reducible refine Kd.C_alloc ?_ _) | (with_reducible refine Kd.C_drewN ?_ _) | (with_reducible refine Kd.C_drew ?_))); (case side2 => exact HC1_0.out); (case side3 => repeat (first | exact (Kd.C_below HR0_1.out HB.out) | (with_reducible refine Kd.C_alloc ?_ _) | (with_reducible refine Kd.C_drewN ?_ _) | (with_reducible refine Kd.C_drew ?_))); (case side4 => exact HC0_1.out); rintro e w14 ⟨v477, rfl, ho0, hb⟩; refine ⟨_, rfl, ?_⟩; have n0_ := Aside0.mk (Kd.R_elder' (by (with_reducible repeat (first | apply Kd.R_alloc | apply Kd.R_drewN | apply Kd.R_drew)); exact HO474.out) (Kd.R_base ho0) hb); have n1_ := Aside0.mk (Kd.R_lower (Kd.R_new' ho0 (Kd.R_lt (by (with_reducible repeat (first | apply Kd.R_alloc | apply Kd.R_drewN | apply Kd.R_drew)); exact HO474.out))) (below_size (by repeat (first | (with_reducible first | exact HB.out | apply below_alloc | apply pw_below_drewN | apply below_drew1 | refine below_set ?_ GE469.out | refine below_set ?_ GE470.out) | exact HB.out)))); have n2_ := Aside0.mk (blk_below (g := gb469) (o := .cells #[.slice A0_0 l0_0.length c0_0, .slice A0_1 l0_1.length c0_1] 25 (0, 0)) (by (with_reducible repeat (first | refine blk_drewN ?_ _ | refine blk_drew ?_ | refine blk_alloc ?_ _)); exact BK469.out) hb); have n3_ := Aside0.mk (blk_below (g := gb470) (o := .cells #[.slice A1_0 l1_0.length c1_0, .slice A1_1 l1_1.length c1_1] 25 (0, 0)) (by (with_reducible repeat (first | refine blk_drewN ?_ _ | refine blk_drew ?_ | refine blk_alloc ?_ _)); exact BK470.out) hb); have n4_ := Aside0.mk (below_step (by repeat (first | (with_reducible first | exact HB.out | apply below_alloc | apply pw_below_drewN | apply below_drew1 | refine below_set ?_ GE469.out | refine below_set ?_ GE470.out) | exact HB.out)) hb); clear HO474; clear BK469; clear BK470; clear HB; have HO474 := n0_; have HO478 := n1_; have BK469 := n2_; have BK470 := n3_; have HB := n4_; clear n0_ n1_ n2_ n3_ n4_; (try clear hb); (try clear hb2); (try clear hk); (try clear hi); (try clear ho0)))
  go_ret3
  exact ⟨_, _, by first | rfl | (simp [errW_none, errW_some] <;> rfl) | (simp only [← hji5]; first | rfl | (simp [errW_none, errW_some] <;> rfl)) | (simp [*, errW_none, errW_some] <;> rfl), by (with_reducible repeat (first | apply Kd.R_alloc | apply Kd.R_drewN | apply Kd.R_drew)); exact Kd.R_mono HO474.out (fun _ hk => hk.2), by (with_reducible repeat (first | apply Kd.R_alloc | apply Kd.R_drewN | apply Kd.R_drew)); exact Kd.R_mono HO478.out (fun _ hk => hk.2), by repeat (first | (with_reducible first | exact HB.out | apply below_alloc | apply pw_below_drewN | apply below_drew1 | refine below_set ?_ GE469.out | refine below_set ?_ GE470.out) | exact HB.out)⟩

/-! ### rat_Cmp: function 14 -/
def rat_Cmp.f (k : Nat) (l0_0 : List Int) (l0_1 : List Int) (l1_0 : List Int) (l1_1 : List Int) : Option (Int × Int) := (rat_both.f k l0_0 l0_1 l1_0 l1_1).bind fun t481 => (if t481 = 0 then ((rat_cross.f k l0_0 l0_1 l1_0 l1_1).bind fun bt482 => (if bt482.2.2 = 0 then ((nat_Cmp.f k bt482.1 bt482.2.1).bind fun t489 => (some (t489, 0))) else (none))) else (none))
theorem rat_Cmp.mono : ∀ a0 a1 a2 a3 k, LeO (rat_Cmp.f k a0 a1 a2 a3) (rat_Cmp.f (k + 1) a0 a1 a2 a3) := by
  intro a0 a1 a2 a3 k
  unfold rat_Cmp.f
  repeat' first
      | (with_reducible exact nat_Cmp.mono _ _ _)
      | (with_reducible exact rat_both.mono _ _ _ _ _)
      | (with_reducible exact rat_cross.mono _ _ _ _ _)
      | (with_reducible exact LeO.refl _)
      | (with_reducible exact LeO.none _)
      | (with_reducible refine LeO.ite ?_ ?_)
      | (with_reducible refine LeO.bind ?_ (fun _ => ?_))
      | exact nat_Cmp.mono _ _ _
      | exact rat_both.mono _ _ _ _ _
      | exact rat_cross.mono _ _ _ _ _
      | exact LeO.none _
      | refine LeO.ite ?_ ?_
      | refine LeO.bind ?_ (fun _ => ?_)
set_option maxHeartbeats 8000000 in
set_option maxRecDepth 100000 in
theorem rat_Cmp.calls (k : Nat) (A0_0 : Option Addr) (c0_0 : Nat) (l0_0 : List Int) (A0_1 : Option Addr) (c0_1 : Nat) (l0_1 : List Int) (A1_0 : Option Addr) (c1_0 : Nat) (l1_0 : List Int) (A1_1 : Option Addr) (c1_1 : Nat) (l1_1 : List Int) (r1 : Int) (r2 : Int) (w : World) (hr0_0 : Kd.C (Kd.int .u32) w A0_0 l0_0.length l0_0) (hc0_0 : l0_0.length ≤ c0_0) (hr0_1 : Kd.C (Kd.int .u32) w A0_1 l0_1.length l0_1) (hc0_1 : l0_1.length ≤ c0_1) (hr1_0 : Kd.C (Kd.int .u32) w A1_0 l1_0.length l1_0) (hc1_0 : l1_0.length ≤ c1_0) (hr1_1 : Kd.C (Kd.int .u32) w A1_1 l1_1.length l1_1) (hc1_1 : l1_1.length ≤ c1_1) (h : rat_Cmp.f k l0_0 l0_1 l1_0 l1_1 = some (r1, r2)) :
    Calls Tryd.prog 14 #[.agg #[.slice A0_0 l0_0.length c0_0, .slice A0_1 l0_1.length c0_1], .agg #[.slice A1_0 l1_0.length c1_0, .slice A1_1 l1_1.length c1_1]] w fun e w' => e = .returned (.tuple #[.int .i64 r1, .int .i64 r2]) ∧ Below w.heap.size w w' := by
  have hu25 := Tryd.underlying25
  have HR0_0 := Aside0.mk hr0_0
  have HC0_0 := Aside0.mk hc0_0
  clear hr0_0 hc0_0
  have HR0_1 := Aside0.mk hr0_1
  have HC0_1 := Aside0.mk hc0_1
  clear hr0_1 hc0_1
  have HR1_0 := Aside0.mk hr1_0
  have HC1_0 := Aside0.mk hc1_0
  clear hr1_0 hc1_0
  have HR1_1 := Aside0.mk hr1_1
  have HC1_1 := Aside0.mk hc1_1
  clear hr1_1 hc1_1
  have HB := Aside0.mk (Below.refl w.heap.size w)
  have H : ((rat_both.f k l0_0 l0_1 l1_0 l1_1).bind fun t481 => (if t481 = 0 then ((rat_cross.f k l0_0 l0_1 l1_0 l1_1).bind fun bt482 => (if bt482.2.2 = 0 then ((nat_Cmp.f k bt482.1 bt482.2.1).bind fun t489 => (some (t489, 0))) else (none))) else (none))) = some (r1, r2) := h
  clear h
  replace H := Option.bind_eq_some_iff.mp H
  obtain ⟨t481, A30, H⟩ := H
  replace H : (if t481 = 0 then ((rat_cross.f k l0_0 l0_1 l1_0 l1_1).bind fun bt482 => (if bt482.2.2 = 0 then ((nat_Cmp.f k bt482.1 bt482.2.1).bind fun t489 => (some (t489, 0))) else (none))) else (none)) = some (r1, r2) := H
  have A3 := Aside0.mk A30
  clear A30
  by_cases c4 : t481 = 0
  · rw [if_pos c4] at H
    have c4b0 : (t481 == 0) = true := beq_iff_eq.mpr c4
    have c4b1 : (t481 != 0) = false := bne_eq_false_iff_eq.mpr c4
    clear c4
    replace H := Option.bind_eq_some_iff.mp H
    obtain ⟨⟨t482, t485, t488⟩, A50, H⟩ := H
    replace H : (if t488 = 0 then ((nat_Cmp.f k t482 t485).bind fun t489 => (some (t489, 0))) else (none)) = some (r1, r2) := H
    have A5 := Aside0.mk A50
    clear A50
    by_cases c6 : t488 = 0
    · rw [if_pos c6] at H
      have c6b0 : (t488 == 0) = true := beq_iff_eq.mpr c6
      have c6b1 : (t488 != 0) = false := bne_eq_false_iff_eq.mpr c6
      clear c6
      replace H := Option.bind_eq_some_iff.mp H
      obtain ⟨t489, A70, H⟩ := H
      replace H : (some (t489, 0)) = some (r1, r2) := H
      have A7 := Aside0.mk A70
      clear A70
      simp only [Option.some.injEq, Prod.mk.injEq] at H
      obtain ⟨rfl, rfl⟩ := H
      go_enter Tryd.func14, Tryd.ntmps14
      go_wp2_with (first | ((with_reducible refine gate_dst (N := 2) rfl ?_); refine box_event ?hg (N := 2) ?hd (cs := #[.slice A0_0 l0_0.length c0_0, .slice A0_1 l0_1.length c0_1]) (t := 25) ?hr ?_; (case hd => rfl); (case hg => rfl); (case hr => first | (go_simp; done) | (go_simp; rfl)); intro gb479 hg w8 hbox hb; have n0_ := Aside0.mk (below_step (by repeat (first | (with_reducible first | exact HB.out | apply below_alloc | apply pw_below_drewN | apply below_drew1) | exact HB.out)) hb); have n1_ := Aside0.mk (hbox); have n2_ := Aside0.mk ((by rw [hg]; exact (below_size (by repeat (first | (with_reducible first | exact HB.out | apply below_alloc | apply pw_below_drewN | apply below_drew1) | exact HB.out))) : w.heap.size ≤ gb479)); have n3_ := Aside0.mk ((by rw [hg]; exact (below_size (by repeat (first | (with_reducible first | exact HB.out | apply below_alloc | apply pw_below_drewN | apply below_drew1) | exact HB.out))) : w.heap.size ≤ gb479)); clear HB; have HB := n0_; have BK479 := n1_; have GW479 := n2_; have GE479 := n3_; clear n0_ n1_ n2_ n3_; clear hb hbox hg) | ((with_reducible refine gate_dst (N := 3) rfl ?_); refine box_event ?hg (N := 3) ?hd (cs := #[.slice A1_0 l1_0.length c1_0, .slice A1_1 l1_1.length c1_1]) (t := 25) ?hr ?_; (case hd => rfl); (case hg => rfl); (case hr => first | (go_simp; done) | (go_simp; rfl)); intro gb480 hg w9 hbox hb; have n0_ := Aside0.mk (blk_below (g := gb479) (o := .cells #[.slice A0_0 l0_0.length c0_0, .slice A0_1 l0_1.length c0_1] 25 (0, 0)) (by (with_reducible repeat (first | refine blk_drewN ?_ _ | refine blk_drew ?_ | refine blk_alloc ?_ _)); exact BK479.out) hb); have n1_ := Aside0.mk (below_step (by repeat (first | (with_reducible first | exact HB.out | apply below_alloc | apply pw_below_drewN | apply below_drew1 | refine below_set ?_ GE479.out) | exact HB.out)) hb); have n2_ := Aside0.mk (hbox); have n3_ := Aside0.mk ((by rw [hg]; exact (below_size (by repeat (first | (with_reducible first | exact HB.out | apply below_alloc | apply pw_below_drewN | apply below_drew1 | refine below_set ?_ GE479.out) | exact HB.out))) : w.heap.size ≤ gb480)); have n4_ := Aside0.mk ((by rw [hg]; exact (below_size (by repeat (first | (with_reducible first | exact HB.out | apply below_alloc | apply pw_below_drewN | apply below_drew1 | refine below_set ?_ GE479.out) | exact HB.out))) : w.heap.size ≤ gb480)); have n5_ := Aside0.mk ((by rw [hg]; exact Nat.ne_of_lt (blk_lt (g := gb479) (o := .cells #[.slice A0_0 l0_0.length c0_0, .slice A0_1 l0_1.length c0_1] 25 (0, 0)) (by (with_reducible repeat (first | refine blk_drewN ?_ _ | refine blk_drew ?_ | refine blk_alloc ?_ _)); exact BK479.out)) : gb479 ≠ gb480)); have n6_ := Aside0.mk ((by rw [hg]; exact Nat.ne_of_gt (blk_lt (g := gb479) (o := .cells #[.slice A0_0 l0_0.length c0_0, .slice A0_1 l0_1.length c0_1] 25 (0, 0)) (by (with_reducible repeat (first | refine blk_drewN ?_ _ | refine blk_drew ?_ | refine blk_alloc ?_ _)); exact BK479.out)) : gb480 ≠ gb479)); clear BK479; clear HB; have BK479 := n0_; have HB := n1_; have BK480 := n2_; have GW480 := n3_; have GE480 := n4_; have NB479_480 := n5_; have NB480_479 := n6_; clear n0_ n1_ n2_ n3_ n4_ n5_ n6_; clear hb hbox hg; have hnb10 := NB479_480.out; have hnc10 := NB480_479.out; have hcz11_0 : w9.cell? ⟨gb479, 0, none⟩ = some (.slice A0_0 l0_0.length c0_0) := (blk_cell BK479.out 0).trans rfl; have hcz11_1 : w9.cell? ⟨gb479, 1, none⟩ = some (.slice A0_1 l0_1.length c0_1) := (blk_cell BK479.out 1).trans rfl; have hfz11_0 := blk_frozen BK479.out 0; have hfz11_1 := blk_frozen BK479.out 1; have hcz12_0 : w9.cell? ⟨gb480, 0, none⟩ = some (.slice A1_0 l1_0.length c1_0) := (blk_cell BK480.out 0).trans rfl; have hcz12_1 : w9.cell? ⟨gb480, 1, none⟩ = some (.slice A1_1 l1_1.length c1_1) := (blk_cell BK480.out 1).trans rfl; have hfz12_0 := blk_frozen BK480.out 0; have hfz12_1 := blk_frozen BK480.out 1) | ((with_reducible refine gate_callee (f := 39) rfl ?_); refine goesL_ (some 12) rfl rfl Tryd.func39 (by kernel_rfl) rfl #[.agg #[.slice A0_0 l0_0.length c0_0, .slice A0_1 l0_1.length c0_1], .agg #[.slice A1_0 l1_0.length c1_0, .slice A1_1 l1_1.length c1_1]] rfl (by (try simp only [List.map_toArray, List.map_cons, List.map_nil]); first | done | rfl | (simp only [List.length_drop, List.length_take]; rfl)) ?_; (with_reducible refine (rat_both.calls k _ _ l0_0 _ _ l0_1 _ _ l1_0 _ _ l1_1 t481 _ ?side1 ?side2 ?side3 ?side4 ?side5 ?side6 ?side7 ?side8 A3.out).mono ?_); (case side1 => repeat (first | exact (Kd.C_below HR0_0.out HB.out) | (with_reducible refine Kd.C_alloc ?_ _) | (with_reducible refine Kd.C_drewN ?_ _) | (with_reducible refine Kd.C_drew ?_))); (case side2 => exact HC0_0.out); (case side3 => repeat (first | exact (Kd.C_below HR0_1.out HB.out) | (with_reducible refine Kd.C_alloc ?_ _) | (with_reducible refine Kd.C_drewN ?_ _) | (with_reducible refine Kd.C_drew ?_))); (case side4 => exact HC0_1.out); (case side5 => repeat (first | exact (Kd.C_below HR1_0.out HB.out) | (with_reducible refine Kd.C_alloc ?_ _) | (with_reducible refine Kd.C_drewN ?_ _) | (with_reducible refine Kd.C_drew ?_))); (case side6 => exact HC1_0.out); (case side7 => repeat (first | exact (Kd.C_below HR1_1.out HB.out) | (with_reducible refine Kd.C_alloc ?_ _) | (with_reducible refine Kd.C_drewN ?_ _) | (with_reducible refine Kd.C_drew ?_))); (case side8 => exact HC1_1.out); rintro e w13 ⟨rfl, hb⟩; refine ⟨_, rfl, ?_⟩; have n0_ := Aside0.mk (blk_below (g := gb479) (o := .cells #[.slice A0_0 l0_0.length c0_0, .slice A0_1 l0_1.length c0_1] 25 (0, 0)) (by (with_reducible repeat (first | refine blk_drewN ?_ _ | refine blk_drew ?_ | refine blk_alloc ?_ _)); exact BK479.out) hb); have n1_ := Aside0.mk (blk_below (g := gb480) (o := .cells #[.slice A1_0 l1_0.length c1_0, .slice A1_1 l1_1.length c1_1] 25 (0, 0)) (by (with_reducible repeat (first | refine blk_drewN ?_ _ | refine blk_drew ?_ | refine blk_alloc ?_ _)); exact BK480.out) hb); have n2_ := Aside0.mk (below_step (by repeat (first | (with_reducible first | exact HB.out | apply below_alloc | apply pw_below_drewN | apply below_drew1 | refine below_set ?_ GE479.out | refine below_set ?_ GE480.out) | exact HB.out)) hb); clear BK479; clear BK480; clear HB; have BK479 := n0_; have BK480 := n1_; have HB := n2_; clear n0_ n1_ n2_; (try clear hb); (try clear hb2); (try clear hk); (try clear hi); have hcz14_0 : w13.cell? ⟨gb479, 0, none⟩ = some (.slice A0_0 l0_0.length c0_0) := (blk_cell BK479.out 0).trans rfl; have hcz14_1 : w13.cell? ⟨gb479, 1, none⟩ = some (.slice A0_1 l0_1.length c0_1) := (blk_cell BK479.out 1).trans rfl; have hfz14_0 := blk_frozen BK479.out 0; have hfz14_1 := blk_frozen BK479.out 1; have hcz15_0 : w13.cell? ⟨gb480, 0, none⟩ = some (.slice A1_0 l1_0.length c1_0) := (blk_cell BK480.out 0).trans rfl; have hcz15_1 : w13.cell? ⟨gb480, 1, none⟩ = some (.slice A1_1 l1_1.length c1_1) := (blk_cell BK480.out 1).trans rfl; have hfz15_0 := blk_frozen BK480.out 0; have hfz15_1 := blk_frozen BK480.out 1) | ((with_reducible refine gate_callee (f := 40) rfl ?_); refine goesL_ (some 19) rfl rfl Tryd.func40 (by kernel_rfl) rfl #[.agg #[.slice A0_0 l0_0.length c0_0, .slice A0_1 l0_1.length c0_1], .agg #[.slice A1_0 l1_0.length c1_0, .slice A1_1 l1_1.length c1_1]] rfl (by (try simp only [List.map_toArray, List.map_cons, List.map_nil]); first | done | rfl | (simp only [List.length_drop, List.length_take]; rfl)) ?_; (with_reducible refine (rat_cross.calls k _ _ l0_0 _ _ l0_1 _ _ l1_0 _ _ l1_1 t482 t485 t488 _ ?side1 ?side2 ?side3 ?side4 ?side5 ?side6 ?side7 ?side8 A5.out).mono ?_); (case side1 => repeat (first | exact (Kd.C_below HR0_0.out HB.out) | (with_reducible refine Kd.C_alloc ?_ _) | (with_reducible refine Kd.C_drewN ?_ _) | (with_reducible refine Kd.C_drew ?_))); (case side2 => exact HC0_0.out); (case side3 => repeat (first | exact (Kd.C_below HR0_1.out HB.out) | (with_reducible refine Kd.C_alloc ?_ _) | (with_reducible refine Kd.C_drewN ?_ _) | (with_reducible refine Kd.C_drew ?_))); (case side4 => exact HC0_1.out); (case side5 => repeat (first | exact (Kd.C_below HR1_0.out HB.out) | (with_reducible refine Kd.C_alloc ?_ _) | (with_reducible refine Kd.C_drewN ?_ _) | (with_reducible refine Kd.C_drew ?_))); (case side6 => exact HC1_0.out); (case side7 => repeat (first | exact (Kd.C_below HR1_1.out HB.out) | (with_reducible refine Kd.C_alloc ?_ _) | (with_reducible refine Kd.C_drewN ?_ _) | (with_reducible refine Kd.C_drew ?_))); (case side8 => exact HC1_1.out); rintro e w16 ⟨v483, v486, rfl, ho0, ho1, hb⟩; refine ⟨_, rfl, ?_⟩; have n0_ := Aside0.mk (Kd.R_lower ho0 (below_size (by repeat (first | (with_reducible first | exact HB.out | apply below_alloc | apply pw_below_drewN | apply below_drew1 | refine below_set ?_ GE479.out | refine below_set ?_ GE480.out) | exact HB.out)))); have n1_ := Aside0.mk (Kd.R_lower ho1 (below_size (by repeat (first | (with_reducible first | exact HB.out | apply below_alloc | apply pw_below_drewN | apply below_drew1 | refine below_set ?_ GE479.out | refine below_set ?_ GE480.out) | exact HB.out)))); have n2_ := Aside0.mk (blk_below (g := gb479) (o := .cells #[.slice A0_0 l0_0.length c0_0, .slice A0_1 l0_1.length c0_1] 25 (0, 0)) (by (with_reducible repeat (first | refine blk_drewN ?_ _ | refine blk_drew ?_ | refine blk_alloc ?_ _)); exact BK479.out) hb); have n3_ := Aside0.mk (blk_below (g := gb480) (o := .cells #[.slice A1_0 l1_0.length c1_0, .slice A1_1 l1_1.length c1_1] 25 (0, 0)) (by (with_reducible repeat (first | refine blk_drewN ?_ _ | refine blk_drew ?_ | refine blk_alloc ?_ _)); exact BK480.out) hb); have n4_ := Aside0.mk (below_step (by repeat (first | (with_reducible first | exact HB.out | apply below_alloc | apply pw_below_drewN | apply below_drew1 | refine below_set ?_ GE479.out | refine below_set ?_ GE480.out) | exact HB.out)) hb); clear BK479; clear BK480; clear HB; have HO484 := n0_; have HO487 := n1_; have BK479 := n2_; have BK480 := n3_; have HB := n4_; clear n0_ n1_ n2_ n3_ n4_; (try clear hb); (try clear hb2); (try clear hk); (try clear hi); (try clear ho0); (try clear ho1); obtain ⟨Ao17, co17, eo17⟩ := Kd.R_slice HO484.out; subst eo17; obtain ⟨Ao18, co18, eo18⟩ := Kd.R_slice HO487.out; subst eo18) | ((with_reducible refine gate_callee (f := 19) rfl ?_); refine goesL_ (some 28) rfl rfl Tryd.func19 (by kernel_rfl) rfl #[.slice Ao17 t482.length co17, .slice Ao18 t485.length co18] rfl (by (try simp only [List.map_toArray, List.map_cons, List.map_nil]); first | done | rfl | (simp only [List.length_drop, List.length_take]; rfl)) ?_; (with_reducible refine (nat_Cmp.calls k _ _ t482 _ _ t485 t489 _ ?side1 ?side2 ?side3 ?side4 A7.out).mono ?_); (case side1 => repeat (first | exact (Kd.R_reads' HO484.out).2.2 | (with_reducible refine Kd.C_alloc ?_ _) | (with_reducible refine Kd.C_drewN ?_ _) | (with_reducible refine Kd.C_drew ?_))); (case side2 => exact (Kd.R_reads' HO484.out).2.1); (case side3 => repeat (first | exact (Kd.R_reads' HO487.out).2.2 | (with_reducible refine Kd.C_alloc ?_ _) | (with_reducible refine Kd.C_drewN ?_ _) | (with_reducible refine Kd.C_drew ?_))); (case side4 => exact (Kd.R_reads' HO487.out).2.1); rintro e w19 ⟨rfl, hb⟩; refine ⟨_, rfl, ?_⟩; have n0_ := Aside0.mk (Kd.R_below (by (with_reducible repeat (first | apply Kd.R_alloc | apply Kd.R_drewN | apply Kd.R_drew)); exact HO484.out) hb); have n1_ := Aside0.mk (Kd.R_below (by (with_reducible repeat (first | apply Kd.R_alloc | apply Kd.R_drewN | apply Kd.R_drew)); exact HO487.out) hb); have n2_ := Aside0.mk (blk_below (g := gb479) (o := .cells #[.slice A0_0 l0_0.length c0_0, .slice A0_1 l0_1.length c0_1] 25 (0, 0)) (by (with_reducible repeat (first | refine blk_drewN ?_ _ | refine blk_drew ?_ | refine blk_alloc ?_ _)); exact BK479.out) hb); have n3_ := Aside0.mk (blk_below (g := gb480) (o := .cells #[.slice A1_0 l1_0.length c1_0, .slice A1_1 l1_1.length c1_1] 25 (0, 0)) (by (with_reducible repeat (first | refine blk_drewN ?_ _ | refine blk_drew ?_ | refine blk_alloc ?_ _)); exact BK480.out) hb); have n4_ := Aside0.mk (below_step (by repeat (first | (with_reducible first | exact HB.out | apply below_alloc | apply pw_below_drewN | apply below_drew1 | refine below_set ?_ GE479.out | refine below_set ?_ GE480.out) | exact HB.out)) hb); clear HO484; clear HO487; clear BK479; clear BK480; clear HB; have HO484 := n0_; have HO487 := n1_; have BK479 := n2_; have BK480 := n3_; have HB := n4_; clear n0_ n1_ n2_ n3_ n4_; (try clear hb); (try clear hb2); (try clear hk); (try clear hi)))
      go_ret2
      exact ⟨by first | rfl | (simp [errW_none, errW_some] <;> rfl) | (simp [*, errW_none, errW_some] <;> rfl), by repeat (first | (with_reducible first | exact HB.out | apply below_alloc | apply pw_below_drewN | apply below_drew1 | refine below_set ?_ GE479.out | refine below_set ?_ GE480.out) | exact HB.out)⟩
    · rw [if_neg c6] at H
      exact absurd H (by simp)
  · rw [if_neg c4] at H
    exact absurd H (by simp)

-- NOT PRINTED: function 23 (rat_joined)

-- NOT PRINTED: function 9000001 (rat_joined__nat_Sub)

-- NOT PRINTED: function 17 (rat_Sub)

/-! ### approx_Error: function 12 -/
def approx_Error.f (k : Nat) (l0_0 : List Int) (l0_1 : List Int) : Option (List Int × List Int × Int) := (approx_Float.f k l0_0 l0_1).bind fun bt492 => (if bt492.2 = 0 then ((approx_Exact.f k bt492.1).bind fun bt494 => (if bt494.2.2 = 0 then ((rat_Cmp.f k l0_0 l0_1 bt494.1 bt494.2.1).bind fun bt502 => (if bt502.2 = 0 then (if bt502.1 = 0 then ((rat_Whole.f k 0).bind fun bt504 => (some (bt504.1, bt504.2, 0))) else (none)) else (none))) else (none))) else (none))
theorem approx_Error.mono : ∀ a0 a1 k, LeO (approx_Error.f k a0 a1) (approx_Error.f (k + 1) a0 a1) := by
  intro a0 a1 k
  unfold approx_Error.f
  repeat' first
      | (with_reducible exact approx_Exact.mono _ _)
      | (with_reducible exact approx_Float.mono _ _ _)
      | (with_reducible exact rat_Cmp.mono _ _ _ _ _)
      | (with_reducible exact rat_Whole.mono _ _)
      | (with_reducible exact LeO.refl _)
      | (with_reducible exact LeO.none _)
      | (with_reducible refine LeO.ite ?_ ?_)
      | (with_reducible refine LeO.bind ?_ (fun _ => ?_))
      | exact approx_Exact.mono _ _
      | exact approx_Float.mono _ _ _
      | exact rat_Cmp.mono _ _ _ _ _
      | exact rat_Whole.mono _ _
      | exact LeO.none _
      | refine LeO.ite ?_ ?_
      | refine LeO.bind ?_ (fun _ => ?_)
set_option maxHeartbeats 8000000 in
set_option maxRecDepth 100000 in
theorem approx_Error.calls (k : Nat) (A0_0 : Option Addr) (c0_0 : Nat) (l0_0 : List Int) (A0_1 : Option Addr) (c0_1 : Nat) (l0_1 : List Int) (r1 : List Int) (r2 : List Int) (r3 : Int) (w : World) (hr0_0 : Kd.C (Kd.int .u32) w A0_0 l0_0.length l0_0) (hc0_0 : l0_0.length ≤ c0_0) (hr0_1 : Kd.C (Kd.int .u32) w A0_1 l0_1.length l0_1) (hc0_1 : l0_1.length ≤ c0_1) (h : approx_Error.f k l0_0 l0_1 = some (r1, r2, r3)) :
    Calls Tryd.prog 12 #[.agg #[.slice A0_0 l0_0.length c0_0, .slice A0_1 l0_1.length c0_1]] w fun e w' => ∃ v0_ v1_ : Value, e = .returned (.tuple #[.agg #[v0_, v1_], .int .i64 r3]) ∧ Kd.R (Kd.int .u32) 47 w' w.heap.size (fun k_ => some k_ ≠ (v1_ : Value).ownBlock) v0_ r1 ∧ Kd.R (Kd.int .u32) 47 w' w.heap.size (fun k_ => some k_ ≠ (v0_ : Value).ownBlock) v1_ r2 ∧ Below w.heap.size w w' := by
  have hu25 := Tryd.underlying25
  have HR0_0 := Aside0.mk hr0_0
  have HC0_0 := Aside0.mk hc0_0
  clear hr0_0 hc0_0
  have HR0_1 := Aside0.mk hr0_1
  have HC0_1 := Aside0.mk hc0_1
  clear hr0_1 hc0_1
  have HB := Aside0.mk (Below.refl w.heap.size w)
  have H : ((approx_Float.f k l0_0 l0_1).bind fun bt492 => (if bt492.2 = 0 then ((approx_Exact.f k bt492.1).bind fun bt494 => (if bt494.2.2 = 0 then ((rat_Cmp.f k l0_0 l0_1 bt494.1 bt494.2.1).bind fun bt502 => (if bt502.2 = 0 then (if bt502.1 = 0 then ((rat_Whole.f k 0).bind fun bt504 => (some (bt504.1, bt504.2, 0))) else (none)) else (none))) else (none))) else (none))) = some (r1, r2, r3) := h
  clear h
  replace H := Option.bind_eq_some_iff.mp H
  obtain ⟨⟨t492, t493⟩, A20, H⟩ := H
  replace H : (if t493 = 0 then ((approx_Exact.f k t492).bind fun bt494 => (if bt494.2.2 = 0 then ((rat_Cmp.f k l0_0 l0_1 bt494.1 bt494.2.1).bind fun bt502 => (if bt502.2 = 0 then (if bt502.1 = 0 then ((rat_Whole.f k 0).bind fun bt504 => (some (bt504.1, bt504.2, 0))) else (none)) else (none))) else (none))) else (none)) = some (r1, r2, r3) := H
  have A2 := Aside0.mk A20
  clear A20
  by_cases c3 : t493 = 0
  · rw [if_pos c3] at H
    have c3b0 : (t493 == 0) = true := beq_iff_eq.mpr c3
    have c3b1 : (t493 != 0) = false := bne_eq_false_iff_eq.mpr c3
    clear c3
    replace H := Option.bind_eq_some_iff.mp H
    obtain ⟨⟨t494, t497, t500⟩, A40, H⟩ := H
    replace H : (if t500 = 0 then ((rat_Cmp.f k l0_0 l0_1 t494 t497).bind fun bt502 => (if bt502.2 = 0 then (if bt502.1 = 0 then ((rat_Whole.f k 0).bind fun bt504 => (some (bt504.1, bt504.2, 0))) else (none)) else (none))) else (none)) = some (r1, r2, r3) := H
    have A4 := Aside0.mk A40
    clear A40
    by_cases c5 : t500 = 0
    · rw [if_pos c5] at H
      have c5b0 : (t500 == 0) = true := beq_iff_eq.mpr c5
      have c5b1 : (t500 != 0) = false := bne_eq_false_iff_eq.mpr c5
      clear c5
      replace H := Option.bind_eq_some_iff.mp H
      obtain ⟨⟨t502, t503⟩, A60, H⟩ := H
      replace H : (if t503 = 0 then (if t502 = 0 then ((rat_Whole.f k 0).bind fun bt504 => (some (bt504.1, bt504.2, 0))) else (none)) else (none)) = some (r1, r2, r3) := H
      have A6 := Aside0.mk A60
      clear A60
      by_cases c7 : t503 = 0
      · rw [if_pos c7] at H
        have c7b0 : (t503 == 0) = true := beq_iff_eq.mpr c7
        have c7b1 : (t503 != 0) = false := bne_eq_false_iff_eq.mpr c7
        clear c7
        by_cases c8 : t502 = 0
        · rw [if_pos c8] at H
          have c8b0 : (t502 == 0) = true := beq_iff_eq.mpr c8
          have c8b1 : (t502 != 0) = false := bne_eq_false_iff_eq.mpr c8
          clear c8
          replace H := Option.bind_eq_some_iff.mp H
          obtain ⟨⟨t504, t507⟩, A90, H⟩ := H
          replace H : (some (t504, t507, 0)) = some (r1, r2, r3) := H
          have A9 := Aside0.mk A90
          clear A90
          simp only [Option.some.injEq, Prod.mk.injEq] at H
          obtain ⟨rfl, rfl, rfl⟩ := H
          go_enter Tryd.func12, Tryd.ntmps12
          go_wp2_with (first | ((with_reducible refine gate_dst (N := 1) rfl ?_); refine box_event ?hg (N := 1) ?hd (cs := #[.slice A0_0 l0_0.length c0_0, .slice A0_1 l0_1.length c0_1]) (t := 25) ?hr ?_; (case hd => rfl); (case hg => rfl); (case hr => first | (go_simp; done) | (go_simp; rfl)); intro gb490 hg w10 hbox hb; have n0_ := Aside0.mk (below_step (by repeat (first | (with_reducible first | exact HB.out | apply below_alloc | apply pw_below_drewN | apply below_drew1) | exact HB.out)) hb); have n1_ := Aside0.mk (hbox); have n2_ := Aside0.mk ((by rw [hg]; exact (below_size (by repeat (first | (with_reducible first | exact HB.out | apply below_alloc | apply pw_below_drewN | apply below_drew1) | exact HB.out))) : w.heap.size ≤ gb490)); have n3_ := Aside0.mk ((by rw [hg]; exact (below_size (by repeat (first | (with_reducible first | exact HB.out | apply below_alloc | apply pw_below_drewN | apply below_drew1) | exact HB.out))) : w.heap.size ≤ gb490)); clear HB; have HB := n0_; have BK490 := n1_; have GW490 := n2_; have GE490 := n3_; clear n0_ n1_ n2_ n3_; clear hb hbox hg) | ((with_reducible refine gate_dst (N := 2) rfl ?_); refine box_event ?hg (N := 2) ?hd (cs := #[.slice none 0 0, .slice none 0 0]) (t := 25) ?hr ?_; (case hd => rfl); (case hg => rfl); (case hr => first | (go_simp; done) | (go_simp; rfl)); intro gb491 hg w11 hbox hb; have n0_ := Aside0.mk (blk_below (g := gb490) (o := .cells #[.slice A0_0 l0_0.length c0_0, .slice A0_1 l0_1.length c0_1] 25 (0, 0)) (by (with_reducible repeat (first | refine blk_drewN ?_ _ | refine blk_drew ?_ | refine blk_alloc ?_ _)); exact BK490.out) hb); have n1_ := Aside0.mk (below_step (by repeat (first | (with_reducible first | exact HB.out | apply below_alloc | apply pw_below_drewN | apply below_drew1 | refine below_set ?_ GE490.out) | exact HB.out)) hb); have n2_ := Aside0.mk (hbox); have n3_ := Aside0.mk ((by rw [hg]; exact (below_size (by repeat (first | (with_reducible first | exact HB.out | apply below_alloc | apply pw_below_drewN | apply below_drew1 | refine below_set ?_ GE490.out) | exact HB.out))) : w.heap.size ≤ gb491)); have n4_ := Aside0.mk ((by rw [hg]; exact (below_size (by repeat (first | (with_reducible first | exact HB.out | apply below_alloc | apply pw_below_drewN | apply below_drew1 | refine below_set ?_ GE490.out) | exact HB.out))) : w.heap.size ≤ gb491)); have n5_ := Aside0.mk ((by rw [hg]; exact Nat.ne_of_lt (blk_lt (g := gb490) (o := .cells #[.slice A0_0 l0_0.length c0_0, .slice A0_1 l0_1.length c0_1] 25 (0, 0)) (by (with_reducible repeat (first | refine blk_drewN ?_ _ | refine blk_drew ?_ | refine blk_alloc ?_ _)); exact BK490.out)) : gb490 ≠ gb491)); have n6_ := Aside0.mk ((by rw [hg]; exact Nat.ne_of_gt (blk_lt (g := gb490) (o := .cells #[.slice A0_0 l0_0.length c0_0, .slice A0_1 l0_1.length c0_1] 25 (0, 0)) (by (with_reducible repeat (first | refine blk_drewN ?_ _ | refine blk_drew ?_ | refine blk_alloc ?_ _)); exact BK490.out)) : gb491 ≠ gb490)); clear BK490; clear HB; have BK490 := n0_; have HB := n1_; have BK491 := n2_; have GW491 := n3_; have GE491 := n4_; have NB490_491 := n5_; have NB491_490 := n6_; clear n0_ n1_ n2_ n3_ n4_ n5_ n6_; clear hb hbox hg; have hnb12 := NB490_491.out; have hnc12 := NB491_490.out; have hcz13_0 : w11.cell? ⟨gb490, 0, none⟩ = some (.slice A0_0 l0_0.length c0_0) := (blk_cell BK490.out 0).trans rfl; have hcz13_1 : w11.cell? ⟨gb490, 1, none⟩ = some (.slice A0_1 l0_1.length c0_1) := (blk_cell BK490.out 1).trans rfl; have hfz13_0 := blk_frozen BK490.out 0; have hfz13_1 := blk_frozen BK490.out 1) | ((with_reducible refine gate_callee (f := 10) rfl ?_); refine goesL_ (some 10) rfl rfl Tryd.func10 (by kernel_rfl) rfl #[.agg #[.slice A0_0 l0_0.length c0_0, .slice A0_1 l0_1.length c0_1]] rfl (by (try simp only [List.map_toArray, List.map_cons, List.map_nil]); first | done | rfl | (simp only [List.length_drop, List.length_take]; rfl)) ?_; (with_reducible refine (approx_Float.calls k _ _ l0_0 _ _ l0_1 t492 t493 _ ?side1 ?side2 ?side3 ?side4 A2.out).mono ?_); (case side1 => repeat (first | exact (Kd.C_below HR0_0.out HB.out) | (with_reducible refine Kd.C_alloc ?_ _) | (with_reducible refine Kd.C_drewN ?_ _) | (with_reducible refine Kd.C_drew ?_))); (case side2 => exact HC0_0.out); (case side3 => repeat (first | exact (Kd.C_below HR0_1.out HB.out) | (with_reducible refine Kd.C_alloc ?_ _) | (with_reducible refine Kd.C_drewN ?_ _) | (with_reducible refine Kd.C_drew ?_))); (case side4 => exact HC0_1.out); rintro e w14 ⟨rfl, hb⟩; refine ⟨_, rfl, ?_⟩; have n0_ := Aside0.mk (blk_below (g := gb490) (o := .cells #[.slice A0_0 l0_0.length c0_0, .slice A0_1 l0_1.length c0_1] 25 (0, 0)) (by (with_reducible repeat (first | refine blk_drewN ?_ _ | refine blk_drew ?_ | refine blk_alloc ?_ _)); exact BK490.out) hb); have n1_ := Aside0.mk (blk_below (g := gb491) (o := .cells #[.slice none 0 0, .slice none 0 0] 25 (0, 0)) (by (with_reducible repeat (first | refine blk_drewN ?_ _ | refine blk_drew ?_ | refine blk_alloc ?_ _)); exact BK491.out) hb); have n2_ := Aside0.mk (below_step (by repeat (first | (with_reducible first | exact HB.out | apply below_alloc | apply pw_below_drewN | apply below_drew1 | refine below_set ?_ GE490.out | refine below_set ?_ GE491.out) | exact HB.out)) hb); clear BK490; clear BK491; clear HB; have BK490 := n0_; have BK491 := n1_; have HB := n2_; clear n0_ n1_ n2_; (try clear hb); (try clear hb2); (try clear hk); (try clear hi)) | ((with_reducible refine gate_callee (f := 11) rfl ?_); refine goesL_ (some 19) rfl rfl Tryd.func11 (by kernel_rfl) rfl #[.float .f64 t492] rfl (by (try simp only [List.map_toArray, List.map_cons, List.map_nil]); first | done | rfl | (simp only [List.length_drop, List.length_take]; rfl)) ?_; (with_reducible refine (approx_Exact.calls k t492 t494 t497 t500 _ A4.out).mono ?_); rintro e w15 ⟨v495, v498, rfl, ho0, ho1, hb⟩; refine ⟨_, rfl, ?_⟩; have n0_ := Aside0.mk (Kd.R_lower ho0 (below_size (by repeat (first | (with_reducible first | exact HB.out | apply below_alloc | apply pw_below_drewN | apply below_drew1 | refine below_set ?_ GE490.out | refine below_set ?_ GE491.out) | exact HB.out)))); have n1_ := Aside0.mk (Kd.R_lower ho1 (below_size (by repeat (first | (with_reducible first | exact HB.out | apply below_alloc | apply pw_below_drewN | apply below_drew1 | refine below_set ?_ GE490.out | refine below_set ?_ GE491.out) | exact HB.out)))); have n2_ := Aside0.mk (blk_below (g := gb490) (o := .cells #[.slice A0_0 l0_0.length c0_0, .slice A0_1 l0_1.length c0_1] 25 (0, 0)) (by (with_reducible repeat (first | refine blk_drewN ?_ _ | refine blk_drew ?_ | refine blk_alloc ?_ _)); exact BK490.out) hb); have n3_ := Aside0.mk (blk_below (g := gb491) (o := .cells #[.slice none 0 0, .slice none 0 0] 25 (0, 0)) (by (with_reducible repeat (first | refine blk_drewN ?_ _ | refine blk_drew ?_ | refine blk_alloc ?_ _)); exact BK491.out) hb); have n4_ := Aside0.mk (below_step (by repeat (first | (with_reducible first | exact HB.out | apply below_alloc | apply pw_below_drewN | apply below_drew1 | refine below_set ?_ GE490.out | refine below_set ?_ GE491.out) | exact HB.out)) hb); clear BK490; clear BK491; clear HB; have HO496 := n0_; have HO499 := n1_; have BK490 := n2_; have BK491 := n3_; have HB := n4_; clear n0_ n1_ n2_ n3_ n4_; (try clear hb); (try clear hb2); (try clear hk); (try clear hi); (try clear ho0); (try clear ho1)) | ((with_reducible refine gate_dst (N := 6) rfl ?_); refine box_event ?hg (N := 6) ?hd (cs := #[.slice none 0 0, .slice none 0 0]) (t := 25) ?hr ?_; (case hd => rfl); (case hg => rfl); (case hr => first | (go_simp; done) | (go_simp; rfl)); intro gb501 hg w16 hbox hb; have n0_ := Aside0.mk (Kd.R_below (by (with_reducible repeat (first | apply Kd.R_alloc | apply Kd.R_drewN | apply Kd.R_drew)); exact HO496.out) hb); have n1_ := Aside0.mk (Kd.R_below (by (with_reducible repeat (first | apply Kd.R_alloc | apply Kd.R_drewN | apply Kd.R_drew)); exact HO499.out) hb); have n2_ := Aside0.mk (blk_below (g := gb490) (o := .cells #[.slice A0_0 l0_0.length c0_0, .slice A0_1 l0_1.length c0_1] 25 (0, 0)) (by (with_reducible repeat (first | refine blk_drewN ?_ _ | refine blk_drew ?_ | refine blk_alloc ?_ _)); exact BK490.out) hb); have n3_ := Aside0.mk (blk_below (g := gb491) (o := .cells #[.slice none 0 0, .slice none 0 0] 25 (0, 0)) (by (with_reducible repeat (first | refine blk_drewN ?_ _ | refine blk_drew ?_ | refine blk_alloc ?_ _)); exact BK491.out) hb); have n4_ := Aside0.mk (below_step (by repeat (first | (with_reducible first | exact HB.out | apply below_alloc | apply pw_below_drewN | apply below_drew1 | refine below_set ?_ GE490.out | refine below_set ?_ GE491.out) | exact HB.out)) hb); have n5_ := Aside0.mk (hbox); have n6_ := Aside0.mk ((by rw [hg]; exact (below_size (by repeat (first | (with_reducible first | exact HB.out | apply below_alloc | apply pw_below_drewN | apply below_drew1 | refine below_set ?_ GE490.out | refine below_set ?_ GE491.out) | exact HB.out))) : w.heap.size ≤ gb501)); have n7_ := Aside0.mk ((by rw [hg]; exact (below_size (by repeat (first | (with_reducible first | exact HB.out | apply below_alloc | apply pw_below_drewN | apply below_drew1 | refine below_set ?_ GE490.out | refine below_set ?_ GE491.out) | exact HB.out))) : w.heap.size ≤ gb501)); have n8_ := Aside0.mk ((by rw [hg]; exact Nat.ne_of_lt (blk_lt (g := gb490) (o := .cells #[.slice A0_0 l0_0.length c0_0, .slice A0_1 l0_1.length c0_1] 25 (0, 0)) (by (with_reducible repeat (first | refine blk_drewN ?_ _ | refine blk_drew ?_ | refine blk_alloc ?_ _)); exact BK490.out)) : gb490 ≠ gb501)); have n9_ := Aside0.mk ((by rw [hg]; exact Nat.ne_of_gt (blk_lt (g := gb490) (o := .cells #[.slice A0_0 l0_0.length c0_0, .slice A0_1 l0_1.length c0_1] 25 (0, 0)) (by (with_reducible repeat (first | refine blk_drewN ?_ _ | refine blk_drew ?_ | refine blk_alloc ?_ _)); exact BK490.out)) : gb501 ≠ gb490)); have n10_ := Aside0.mk ((by rw [hg]; exact Nat.ne_of_lt (blk_lt (g := gb491) (o := .cells #[.slice none 0 0, .slice none 0 0] 25 (0, 0)) (by (with_reducible repeat (first | refine blk_drewN ?_ _ | refine blk_drew ?_ | refine blk_alloc ?_ _)); exact BK491.out)) : gb491 ≠ gb501)); have n11_ := Aside0.mk ((by rw [hg]; exact Nat.ne_of_gt (blk_lt (g := gb491) (o := .cells #[.slice none 0 0, .slice none 0 0] 25 (0, 0)) (by (with_reducible repeat (first | refine blk_drewN ?_ _ | refine blk_drew ?_ | refine blk_alloc ?_ _)); exact BK491.out)) : gb501 ≠ gb491)); clear HO496; clear HO499; clear BK490; clear BK491; clear HB; have HO496 := n0_; have HO499 := n1_; have BK490 := n2_; have BK491 := n3_; have HB := n4_; have BK501 := n5_; have GW501 := n6_; have GE501 := n7_; have NB490_501 := n8_; have NB501_490 := n9_; have NB491_501 := n10_; have NB501_491 := n11_; clear n0_ n1_ n2_ n3_ n4_ n5_ n6_ n7_ n8_ n9_ n10_ n11_; clear hb hbox hg; obtain ⟨Ao17, co17, eo17⟩ := Kd.R_slice HO496.out; subst eo17; have hnb18 := NB501_490.out; have hnc18 := NB490_501.out; have hnb19 := NB501_491.out; have hnc19 := NB491_501.out; have hcz20_0 : w16.cell? ⟨gb501, 0, none⟩ = some (.slice none 0 0) := (blk_cell BK501.out 0).trans rfl; have hcz20_1 : w16.cell? ⟨gb501, 1, none⟩ = some (.slice none 0 0) := (blk_cell BK501.out 1).trans rfl; have hfz20_0 := blk_frozen BK501.out 0; have hfz20_1 := blk_frozen BK501.out 1; obtain ⟨Ao21, co21, eo21⟩ := Kd.R_slice HO499.out; subst eo21; have hcz22_0 : w16.cell? ⟨gb490, 0, none⟩ = some (.slice A0_0 l0_0.length c0_0) := (blk_cell BK490.out 0).trans rfl; have hcz22_1 : w16.cell? ⟨gb490, 1, none⟩ = some (.slice A0_1 l0_1.length c0_1) := (blk_cell BK490.out 1).trans rfl; have hfz22_0 := blk_frozen BK490.out 0; have hfz22_1 := blk_frozen BK490.out 1) | ((with_reducible refine gate_callee (f := 14) rfl ?_); refine goesL_ (some 29) rfl rfl Tryd.func14 (by kernel_rfl) rfl #[.agg #[.slice A0_0 l0_0.length c0_0, .slice A0_1 l0_1.length c0_1], .agg #[.slice Ao17 t494.length co17, .slice Ao21 t497.length co21]] rfl (by (try simp only [List.map_toArray, List.map_cons, List.map_nil]); first | done | rfl | (simp only [List.length_drop, List.length_take]; rfl)) ?_; (with_reducible refine (rat_Cmp.calls k _ _ l0_0 _ _ l0_1 _ _ t494 _ _ t497 t502 t503 _ ?side1 ?side2 ?side3 ?side4 ?side5 ?side6 ?side7 ?side8 A6.out).mono ?_); (case side1 => exact Kd.C_below HR0_0.out (by repeat (first | (with_reducible first | exact HB.out | apply below_alloc | apply pw_below_drewN | apply below_drew1 | refine below_set ?_ GE490.out | refine below_set ?_ GE491.out | refine below_set ?_ GE501.out) | exact HB.out))); (case side2 => exact HC0_0.out); (case side3 => exact Kd.C_below HR0_1.out (by repeat (first | (with_reducible first | exact HB.out | apply below_alloc | apply pw_below_drewN | apply below_drew1 | refine below_set ?_ GE490.out | refine below_set ?_ GE491.out | refine below_set ?_ GE501.out) | exact HB.out))); (case side4 => exact HC0_1.out); (case side5 => refine (Kd.R_reads' (e := 47) (base := w.heap.size) (ok := fun k_ => some k_ ≠ (.slice Ao21 t497.length co21 : Value).ownBlock) (n := t494.length) (c := co17) ?_).2.2; exact (by (with_reducible repeat (first | apply Kd.R_alloc | apply Kd.R_drewN | apply Kd.R_drew)); exact (Kd.R_mono (Kd.R_far (p := ⟨gb501, 1, none⟩) (Kd.R_far (p := ⟨gb501, 0, none⟩) (Kd.R_types HO496.out BK501.out (by decide)) (fun _ hk => hk.2) (.slice Ao17 t494.length co17)) (fun _ hk => hk.2) (.slice Ao21 t497.length co21)) (fun _ h_ => h_.1)))); (case side6 => exact (Kd.R_reads' HO496.out).2.1); (case side7 => refine (Kd.R_reads' (e := 47) (base := w.heap.size) (ok := fun k_ => some k_ ≠ (.slice Ao17 t494.length co17 : Value).ownBlock) (n := t497.length) (c := co21) ?_).2.2; exact (by (with_reducible repeat (first | apply Kd.R_alloc | apply Kd.R_drewN | apply Kd.R_drew)); exact (Kd.R_mono (Kd.R_far (p := ⟨gb501, 1, none⟩) (Kd.R_far (p := ⟨gb501, 0, none⟩) (Kd.R_types HO499.out BK501.out (by decide)) (fun _ hk => hk.2) (.slice Ao17 t494.length co17)) (fun _ hk => hk.2) (.slice Ao21 t497.length co21)) (fun _ h_ => h_.1)))); (case side8 => exact (Kd.R_reads' HO499.out).2.1); rintro e w23 ⟨rfl, hb⟩; refine ⟨_, rfl, ?_⟩; have n0_ := Aside0.mk (Kd.R_below (by (with_reducible repeat (first | apply Kd.R_alloc | apply Kd.R_drewN | apply Kd.R_drew)); exact (Kd.R_mono (Kd.R_far (p := ⟨gb501, 1, none⟩) (Kd.R_far (p := ⟨gb501, 0, none⟩) (Kd.R_types HO496.out BK501.out (by decide)) (fun _ hk => hk.2) (.slice Ao17 t494.length co17)) (fun _ hk => hk.2) (.slice Ao21 t497.length co21)) (fun _ h_ => h_.1))) hb); have n1_ := Aside0.mk (Kd.R_below (by (with_reducible repeat (first | apply Kd.R_alloc | apply Kd.R_drewN | apply Kd.R_drew)); exact (Kd.R_mono (Kd.R_far (p := ⟨gb501, 1, none⟩) (Kd.R_far (p := ⟨gb501, 0, none⟩) (Kd.R_types HO499.out BK501.out (by decide)) (fun _ hk => hk.2) (.slice Ao17 t494.length co17)) (fun _ hk => hk.2) (.slice Ao21 t497.length co21)) (fun _ h_ => h_.1))) hb); have n2_ := Aside0.mk (blk_below (g := gb490) (o := .cells #[.slice A0_0 l0_0.length c0_0, .slice A0_1 l0_1.length c0_1] 25 (0, 0)) (by (with_reducible repeat (first | refine blk_drewN ?_ _ | refine blk_drew ?_ | refine blk_alloc ?_ _)); refine blk_far ?_ NB490_501.out _; (with_reducible repeat (first | refine blk_drewN ?_ _ | refine blk_drew ?_ | refine blk_alloc ?_ _)); refine blk_far ?_ NB490_501.out _; (with_reducible repeat (first | refine blk_drewN ?_ _ | refine blk_drew ?_ | refine blk_alloc ?_ _)); exact BK490.out) hb); have n3_ := Aside0.mk (blk_below (g := gb491) (o := .cells #[.slice none 0 0, .slice none 0 0] 25 (0, 0)) (by (with_reducible repeat (first | refine blk_drewN ?_ _ | refine blk_drew ?_ | refine blk_alloc ?_ _)); refine blk_far ?_ NB491_501.out _; (with_reducible repeat (first | refine blk_drewN ?_ _ | refine blk_drew ?_ | refine blk_alloc ?_ _)); refine blk_far ?_ NB491_501.out _; (with_reducible repeat (first | refine blk_drewN ?_ _ | refine blk_drew ?_ | refine blk_alloc ?_ _)); exact BK491.out) hb); have n4_ := Aside0.mk (blk_below (g := gb501) (o := .cells #[.slice Ao17 t494.length co17, .slice Ao21 t497.length co21] 25 (0, 0)) (by (with_reducible repeat (first | refine blk_drewN ?_ _ | refine blk_drew ?_ | refine blk_alloc ?_ _)); refine blk_put (cs := #[.slice Ao17 t494.length co17, .slice none 0 0]) ?_ 1 _ rfl; (with_reducible repeat (first | refine blk_drewN ?_ _ | refine blk_drew ?_ | refine blk_alloc ?_ _)); refine blk_put (cs := #[.slice none 0 0, .slice none 0 0]) ?_ 0 _ rfl; (with_reducible repeat (first | refine blk_drewN ?_ _ | refine blk_drew ?_ | refine blk_alloc ?_ _)); exact BK501.out) hb); have n5_ := Aside0.mk (below_step (by repeat (first | (with_reducible first | exact HB.out | apply below_alloc | apply pw_below_drewN | apply below_drew1 | refine below_set ?_ GE490.out | refine below_set ?_ GE491.out | refine below_set ?_ GE501.out) | exact HB.out)) hb); clear HO496; clear HO499; clear BK490; clear BK491; clear BK501; clear HB; have HO496 := n0_; have HO499 := n1_; have BK490 := n2_; have BK491 := n3_; have BK501 := n4_; have HB := n5_; clear n0_ n1_ n2_ n3_ n4_ n5_; (try clear hb); (try clear hb2); (try clear hk); (try clear hi)) | ((with_reducible refine gate_callee (f := 32) rfl ?_); refine goesL_ (some 40) rfl rfl Tryd.func32 (by kernel_rfl) rfl #[.int .u64 0] rfl (by (try simp only [List.map_toArray, List.map_cons, List.map_nil]); first | done | rfl | (simp only [List.length_drop, List.length_take]; rfl)) ?_; (with_reducible refine (rat_Whole.calls k 0 t504 t507 _ A9.out).mono ?_); rintro e w24 ⟨v505, v508, rfl, ho0, ho1, hb⟩; refine ⟨_, rfl, ?_⟩; have n0_ := Aside0.mk (Kd.R_mono (Kd.R_told (Kd.R_told (Kd.R_old (by (with_reducible repeat (first | apply Kd.R_alloc | apply Kd.R_drewN | apply Kd.R_drew)); exact HO496.out) hb) (Kd.R_base ho0)) (Kd.R_base ho1)) (fun _ h_ => h_.1)); have n1_ := Aside0.mk (Kd.R_mono (Kd.R_told (Kd.R_told (Kd.R_old (by (with_reducible repeat (first | apply Kd.R_alloc | apply Kd.R_drewN | apply Kd.R_drew)); exact HO499.out) hb) (Kd.R_base ho0)) (Kd.R_base ho1)) (fun _ h_ => h_.1)); have n2_ := Aside0.mk (Kd.R_lower (Kd.R_new' (Kd.R_new' ho0 (Kd.R_lt (by (with_reducible repeat (first | apply Kd.R_alloc | apply Kd.R_drewN | apply Kd.R_drew)); exact HO496.out))) (Kd.R_lt (by (with_reducible repeat (first | apply Kd.R_alloc | apply Kd.R_drewN | apply Kd.R_drew)); exact HO499.out))) (below_size (by repeat (first | (with_reducible first | exact HB.out | apply below_alloc | apply pw_below_drewN | apply below_drew1 | refine below_set ?_ GE490.out | refine below_set ?_ GE491.out | refine below_set ?_ GE501.out) | exact HB.out)))); have n3_ := Aside0.mk (Kd.R_lower (Kd.R_new' (Kd.R_new' ho1 (Kd.R_lt (by (with_reducible repeat (first | apply Kd.R_alloc | apply Kd.R_drewN | apply Kd.R_drew)); exact HO496.out))) (Kd.R_lt (by (with_reducible repeat (first | apply Kd.R_alloc | apply Kd.R_drewN | apply Kd.R_drew)); exact HO499.out))) (below_size (by repeat (first | (with_reducible first | exact HB.out | apply below_alloc | apply pw_below_drewN | apply below_drew1 | refine below_set ?_ GE490.out | refine below_set ?_ GE491.out | refine below_set ?_ GE501.out) | exact HB.out)))); have n4_ := Aside0.mk (blk_below (g := gb490) (o := .cells #[.slice A0_0 l0_0.length c0_0, .slice A0_1 l0_1.length c0_1] 25 (0, 0)) (by (with_reducible repeat (first | refine blk_drewN ?_ _ | refine blk_drew ?_ | refine blk_alloc ?_ _)); exact BK490.out) hb); have n5_ := Aside0.mk (blk_below (g := gb491) (o := .cells #[.slice none 0 0, .slice none 0 0] 25 (0, 0)) (by (with_reducible repeat (first | refine blk_drewN ?_ _ | refine blk_drew ?_ | refine blk_alloc ?_ _)); exact BK491.out) hb); have n6_ := Aside0.mk (blk_below (g := gb501) (o := .cells #[.slice Ao17 t494.length co17, .slice Ao21 t497.length co21] 25 (0, 0)) (by (with_reducible repeat (first | refine blk_drewN ?_ _ | refine blk_drew ?_ | refine blk_alloc ?_ _)); exact BK501.out) hb); have n7_ := Aside0.mk (below_step (by repeat (first | (with_reducible first | exact HB.out | apply below_alloc | apply pw_below_drewN | apply below_drew1 | refine below_set ?_ GE490.out | refine below_set ?_ GE491.out | refine below_set ?_ GE501.out) | exact HB.out)) hb); clear HO496; clear HO499; clear BK490; clear BK491; clear BK501; clear HB; have HO496 := n0_; have HO499 := n1_; have HO506 := n2_; have HO509 := n3_; have BK490 := n4_; have BK491 := n5_; have BK501 := n6_; have HB := n7_; clear n0_ n1_ n2_ n3_ n4_ n5_ n6_ n7_; (try clear hb); (try clear hb2); (try clear hk); (try clear hi); (try clear ho0); (try clear ho1); obtain ⟨Ao25, co25, eo25⟩ := Kd.R_slice HO506.out; subst eo25; have hcz26_0 : w24.cell? ⟨gb491, 0, none⟩ = some (.slice none 0 0) := (blk_cell BK491.out 0).trans rfl; have hcz26_1 : w24.cell? ⟨gb491, 1, none⟩ = some (.slice none 0 0) := (blk_cell BK491.out 1).trans rfl; have hfz26_0 := blk_frozen BK491.out 0; have hfz26_1 := blk_frozen BK491.out 1; obtain ⟨Ao27, co27, eo27⟩ := Kd.R_slice HO509.out; subst eo27))
          refine bodyPost_ret (results_ct rfl _ _ gb491 25 #[.slice Ao25 t504.length co25, .slice Ao27 t507.length co27] (0, 0) _ rfl (by (with_reducible repeat (first | refine blk_drewN ?_ _ | refine blk_drew ?_ | refine blk_alloc ?_ _)); refine blk_put (cs := #[.slice Ao25 t504.length co25, .slice none 0 0]) ?_ 1 _ rfl; (with_reducible repeat (first | refine blk_drewN ?_ _ | refine blk_drew ?_ | refine blk_alloc ?_ _)); refine blk_put (cs := #[.slice none 0 0, .slice none 0 0]) ?_ 0 _ rfl; (with_reducible repeat (first | refine blk_drewN ?_ _ | refine blk_drew ?_ | refine blk_alloc ?_ _)); exact BK491.out) Tryd.underlying25 rfl (by kernel_rfl)) rfl ?_
          exact ⟨_, _, by first | rfl | (simp [errW_none, errW_some] <;> rfl) | (simp [*, errW_none, errW_some] <;> rfl), by (with_reducible repeat (first | apply Kd.R_alloc | apply Kd.R_drewN | apply Kd.R_drew)); exact Kd.R_mono (Kd.R_far (p := ⟨gb491, 1, none⟩) (Kd.R_far (p := ⟨gb491, 0, none⟩) (Kd.R_types HO506.out BK491.out (by decide)) (fun _ hk => hk.2) (.slice Ao25 t504.length co25)) (fun _ hk => hk.2) (.slice Ao27 t507.length co27)) (fun _ hk => hk.1.1.1), by (with_reducible repeat (first | apply Kd.R_alloc | apply Kd.R_drewN | apply Kd.R_drew)); exact Kd.R_mono (Kd.R_far (p := ⟨gb491, 1, none⟩) (Kd.R_far (p := ⟨gb491, 0, none⟩) (Kd.R_types HO509.out BK491.out (by decide)) (fun _ hk => hk.2) (.slice Ao25 t504.length co25)) (fun _ hk => hk.2) (.slice Ao27 t507.length co27)) (fun _ hk => hk.1.1.1), by repeat (first | (with_reducible first | exact HB.out | apply below_alloc | apply pw_below_drewN | apply below_drew1 | refine below_set ?_ GE490.out | refine below_set ?_ GE491.out | refine below_set ?_ GE501.out) | exact HB.out)⟩
        · rw [if_neg c8] at H
          exact absurd H (by simp)
      · rw [if_neg c7] at H
        exact absurd H (by simp)
    · rw [if_neg c5] at H
      exact absurd H (by simp)
  · rw [if_neg c3] at H
    exact absurd H (by simp)

/-! ### math_NaN: function 21 -/
def math_NaN.f  : Option (Nat) := some 9221120237041090561
set_option maxHeartbeats 8000000 in
set_option maxRecDepth 100000 in
theorem math_NaN.calls  (r : Nat) (w : World) (h : math_NaN.f  = some r) :
    Calls Tryd.prog 21 #[] w fun e w' => e = .returned (.float .f64 r) ∧ Drawn0 w w' := by
  have H : (some 9221120237041090561) = some r := h
  clear h
  obtain rfl := Option.some.inj H
  have hxf64from_run_ := @f64from_run
  go_enter Tryd.func21, Tryd.ntmps21
  go_wp2
  go_ret
  exact ⟨by first | rfl | (simp; done) | (simp [*]; done), by repeat (first | exact Drawn0.refl _ | apply Drawn0.step)⟩

/-! ### nat_digits: function 66 -/
def nat_digits.f (a0 : Int) : Option (ByteArray) := if 0 ≤ a0 then (if a0 ≤ 4294967295 then some (strOfNums ([48 + a0 / 10 / 10 / 10 / 10 / 10 / 10 / 10 / 10 % 10, 48 + a0 / 10 / 10 / 10 / 10 / 10 / 10 / 10 % 10, 48 + a0 / 10 / 10 / 10 / 10 / 10 / 10 % 10, 48 + a0 / 10 / 10 / 10 / 10 / 10 % 10, 48 + a0 / 10 / 10 / 10 / 10 % 10, 48 + a0 / 10 / 10 / 10 % 10, 48 + a0 / 10 / 10 % 10, 48 + a0 / 10 % 10, 48 + a0 % 10] : List Int)) else none) else none
set_option maxHeartbeats 4000000 in
set_option maxRecDepth 100000 in
theorem nat_digits.calls (a0 : Int) (r : ByteArray) (w : World) (h : nat_digits.f a0 = some r) :
    Calls Tryd.prog 66 #[.int .u32 a0] w fun e w' => e = .returned (.string r) ∧ Below w.heap.size w w' := by
  unfold nat_digits.f at h
  by_cases h0 : 0 ≤ a0
  · rw [if_pos h0] at h
    by_cases h1 : a0 ≤ 4294967295
    · rw [if_pos h1] at h
      have hr := Aside0.mk (Option.some.inj h)
      clear h
      go_enter Tryd.func66, Tryd.ntmps66
      go_wp2
      refine wp_loop_rounds 10 ?_
      rw [rounds_succ]; go_wp2
      rw [rounds_succ]; go_wp2
      rw [rounds_succ]; go_wp2
      rw [rounds_succ]; go_wp2
      rw [rounds_succ]; go_wp2
      rw [rounds_succ]; go_wp2
      rw [rounds_succ]; go_wp2
      rw [rounds_succ]; go_wp2
      rw [rounds_succ]; go_wp2
      rw [rounds_succ]; go_wp2
      rw [run_convert_bytes_arg (P := Tryd.prog) _ 94 5 Tryd.underlying94 Tryd.underlying5 w.heap.size 0 9 9 ([48 + a0 / 10 / 10 / 10 / 10 / 10 / 10 / 10 / 10 % 10, 48 + a0 / 10 / 10 / 10 / 10 / 10 / 10 / 10 % 10, 48 + a0 / 10 / 10 / 10 / 10 / 10 / 10 % 10, 48 + a0 / 10 / 10 / 10 / 10 / 10 % 10, 48 + a0 / 10 / 10 / 10 / 10 % 10, 48 + a0 / 10 / 10 / 10 % 10, 48 + a0 / 10 / 10 % 10, 48 + a0 / 10 % 10, 48 + a0 % 10]) rfl (fun i hi => by
        obtain rfl | rfl | rfl | rfl | rfl | rfl | rfl | rfl | rfl : i = 0 ∨ i = 1 ∨ i = 2 ∨ i = 3 ∨ i = 4 ∨ i = 5 ∨ i = 6 ∨ i = 7 ∨ i = 8 := by omega
        all_goals exact (blk_cell (heap_alloc_new w _) _).trans rfl) 9 Tryd.underlying9]
      go_wp2
      go_ret
      exact ⟨by rw [← hr.out]; rfl, (Below.refl _ _).alloc (Nat.le_refl _) _⟩
    · rw [if_neg h1] at h
      exact absurd h (by simp)
  · rw [if_neg h0] at h
    exact absurd h (by simp)

/-! ### strings_trimLeftByte: function 76 -/
def strings_trimLeftByte.l0 : Nat → ByteArray → Int → Option (ByteArray)
  | 0, _, _ => none
  | k + 1, x0, x1 => if (x0.size : Int) > 0 then (if 0 < (x0.size : Int) then (if (bt x0 0) = x1 then (if 1 ≤ (x0.size : Int) then (strings_trimLeftByte.l0 k (x0.extract 1 x0.size) x1) else (none)) else (some x0)) else (none)) else (some x0)
def strings_trimLeftByte.f (k : Nat) (a0 : ByteArray) (a1 : Int) : Option (ByteArray) := strings_trimLeftByte.l0 k a0 a1
theorem strings_trimLeftByte.mono_l : ∀ k, (∀ y0 y1, LeO (strings_trimLeftByte.l0 k y0 y1) (strings_trimLeftByte.l0 (k + 1) y0 y1))
  | 0 => fun _ _ r h => by simp [strings_trimLeftByte.l0] at h
  | k + 1 => by
    have ih0 := strings_trimLeftByte.mono_l k
    · intro y0 y1
      unfold strings_trimLeftByte.l0
      repeat' first
      | (with_reducible exact ih0 _ _)
      | (with_reducible exact LeO.refl _)
      | (with_reducible exact LeO.none _)
      | (with_reducible refine LeO.ite ?_ ?_)
      | (with_reducible refine LeO.bind ?_ (fun _ => ?_))
      | exact ih0 _ _
      | exact LeO.none _
      | refine LeO.ite ?_ ?_
      | refine LeO.bind ?_ (fun _ => ?_)
theorem strings_trimLeftByte.mono : ∀ a0 a1 k, LeO (strings_trimLeftByte.f k a0 a1) (strings_trimLeftByte.f (k + 1) a0 a1) := by
  intro a0 a1 k
  have ih0 := strings_trimLeftByte.mono_l k
  unfold strings_trimLeftByte.f
  repeat' first
      | (with_reducible exact ih0 _ _)
      | (with_reducible exact LeO.refl _)
      | (with_reducible exact LeO.none _)
      | (with_reducible refine LeO.ite ?_ ?_)
      | (with_reducible refine LeO.bind ?_ (fun _ => ?_))
      | exact ih0 _ _
      | exact LeO.none _
      | refine LeO.ite ?_ ?_
      | refine LeO.bind ?_ (fun _ => ?_)
set_option maxHeartbeats 8000000 in
set_option maxRecDepth 100000 in
theorem strings_trimLeftByte.calls (k : Nat) (a0 : ByteArray) (a1 : Int) (r : ByteArray) (w : World) (h : strings_trimLeftByte.f k a0 a1 = some r) :
    Calls Tryd.prog 76 #[.string a0, .int .u8 a1] w fun e w' => e = .returned (.string r) ∧ Drawn0 w w' := by
  have H : (strings_trimLeftByte.l0 k a0 a1) = some r := h
  clear h
  have H' := Aside0.mk H
  clear H
  go_enter Tryd.func76, Tryd.ntmps76
  go_wp2
  go_loopg [0] k (fun kq v0 w' => ∃ (x0_1 : ByteArray), v0 = .string x0_1 ∧ Aside0 (strings_trimLeftByte.l0 kq x0_1 a1 = some r) ∧ Aside0 (kq ≤ k) ∧ Drawn0 w w')
  case atStart => exact ⟨(a0), (by first | rfl | (simp; done) | (simp [*]; done)), H', ⟨Nat.le_refl _⟩, by repeat (first | exact Drawn0.refl _ | apply Drawn0.step)⟩
  case round =>
    clear H'
    try clear p2
    obtain ⟨x0_1, rfl, HA, HK1, ⟨m1, rfl⟩⟩ := hrel
    cases gk with
    | zero => exact absurd HA.out (by simp [strings_trimLeftByte.l0])
    | succ k1 =>
      have H := HA.out
      clear HA
      simp only [strings_trimLeftByte.l0] at H
      by_cases c3 : (x0_1.size : Int) > 0
      · rw [if_pos c3] at H
        have c3b0 : decide (0 < (x0_1.size : Int)) = true := decide_eq_true c3
        have c3b1 : decide (0 < x0_1.size) = true := decide_eq_true (by omega)
        clear c3
        by_cases c4 : 0 < (x0_1.size : Int)
        · rw [if_pos c4] at H
          have c4b0 : decide (0 < (x0_1.size : Int)) = true := decide_eq_true c4
          have c4b1 : decide (0 < x0_1.size) = true := decide_eq_true (by omega)
          clear c4
          by_cases c6 : (bt x0_1 0) = a1
          · rw [if_pos c6] at H
            have c6b0 : ((bt x0_1 0) == a1) = true := beq_iff_eq.mpr c6
            have c6b1 : ((bt x0_1 0) != a1) = false := bne_eq_false_iff_eq.mpr c6
            clear c6
            by_cases c7 : 1 ≤ (x0_1.size : Int)
            · rw [if_pos c7] at H
              have c7b0 := eq_true c7
              have c7b1 : decide (1 ≤ (x0_1.size : Int)) = true := decide_eq_true c7
              clear c7
              have H' := Aside0.mk H
              clear H
              have p5 : 0 ≤ (0 : Int) := (by omega)
              have q5 : 0 < x0_1.size := (by have : (0 : Int) < (x0_1.size : Int) := of_decide_eq_true (by first | (with_reducible assumption) | assumption); omega)
              have hx5 : ∀ h : 0 < x0_1.size, ((x0_1[0]'h).toNat : Int) = bt x0_1 0 := bt_at x0_1 0
              clear p5
              have qi5 : (0 < (x0_1.size : Int)) = True := eq_true (of_decide_eq_true (by first | (with_reducible assumption) | assumption))
              replace q5 := eq_true q5
              go_wp2
              go_roundg k1
              case measure => have := HK1.out; omega
              case rel => exact ⟨(x0_1.extract 1 x0_1.size), (by first | rfl | (simp; done) | (simp [*]; done)), H', ⟨by have := HK1.out; omega⟩, by repeat (first | exact Drawn0.refl _ | apply Drawn0.step)⟩
            · rw [if_neg c7] at H
              exact absurd H (by simp)
          · rw [if_neg c6] at H
            have c6b0 : ((bt x0_1 0) == a1) = false := beq_eq_false_iff_ne.mpr c6
            have c6b1 : ((bt x0_1 0) != a1) = true := bne_iff_ne.mpr c6
            obtain rfl := Option.some.inj H
            have p5 : 0 ≤ (0 : Int) := (by omega)
            have q5 : 0 < x0_1.size := (by have : (0 : Int) < (x0_1.size : Int) := of_decide_eq_true (by first | (with_reducible assumption) | assumption); omega)
            have hx5 : ∀ h : 0 < x0_1.size, ((x0_1[0]'h).toNat : Int) = bt x0_1 0 := bt_at x0_1 0
            clear p5
            have qi5 : (0 < (x0_1.size : Int)) = True := eq_true (of_decide_eq_true (by first | (with_reducible assumption) | assumption))
            replace q5 := eq_true q5
            go_wp2
            go_ret
            exact ⟨by first | rfl | (simp; done) | (simp [*]; done), by repeat (first | exact Drawn0.refl _ | apply Drawn0.step)⟩
        · rw [if_neg c4] at H
          exact absurd H (by simp)
      · rw [if_neg c3] at H
        have c3b0 : decide (0 < (x0_1.size : Int)) = false := decide_eq_false c3
        have c3b1 : decide (0 < x0_1.size) = false := decide_eq_false (by omega)
        clear c3
        obtain rfl := Option.some.inj H
        go_wp2
        go_ret
        exact ⟨by first | rfl | (simp; done) | (simp [*]; done), by repeat (first | exact Drawn0.refl _ | apply Drawn0.step)⟩

-- NOT PRINTED: function 77 (strings_makeASCIISet)

-- NOT PRINTED: function 80 (strings_asciiSet_contains)

-- NOT PRINTED: function 78 (strings_trimLeftASCII)

-- NOT PRINTED: function 83 (utf8_decodeRuneInStringSlow)

-- NOT PRINTED: function 81 (utf8_DecodeRuneInString)

-- NOT PRINTED: function 90 (bytealg_IndexByteString)

-- NOT PRINTED: function 89 (stringslite_IndexByte)

-- NOT PRINTED: function 85 (strings_IndexByte)

/-! ### utf8_ValidRune: function 86 -/
def utf8_ValidRune.j0 : Nat → Int → Bool → Option (Bool)
  | 0, _, _ => none
  | k + 1, x0, x3 => if x3 = true then (some true) else (if 57343 < x0 then (if x0 ≤ 1114111 then (some true) else (some false)) else (some false))
def utf8_ValidRune.f (k : Nat) (a0 : Int) : Option (Bool) := if 0 ≤ a0 then (utf8_ValidRune.j0 k a0 (decide (a0 < 55296))) else (utf8_ValidRune.j0 k a0 false)
theorem utf8_ValidRune.mono_l : ∀ k, (∀ y0 y1, LeO (utf8_ValidRune.j0 k y0 y1) (utf8_ValidRune.j0 (k + 1) y0 y1))
  | 0 => fun _ _ r h => by simp [utf8_ValidRune.j0] at h
  | k + 1 => by
    have ih0 := utf8_ValidRune.mono_l k
    · intro y0 y1
      unfold utf8_ValidRune.j0
      repeat' first
      | (with_reducible exact ih0 _ _)
      | (with_reducible exact LeO.refl _)
      | (with_reducible exact LeO.none _)
      | (with_reducible refine LeO.ite ?_ ?_)
      | (with_reducible refine LeO.bind ?_ (fun _ => ?_))
      | exact ih0 _ _
      | exact LeO.none _
      | refine LeO.ite ?_ ?_
      | refine LeO.bind ?_ (fun _ => ?_)
theorem utf8_ValidRune.mono : ∀ a0 k, LeO (utf8_ValidRune.f k a0) (utf8_ValidRune.f (k + 1) a0) := by
  intro a0 k
  have ih0 := utf8_ValidRune.mono_l k
  unfold utf8_ValidRune.f
  repeat' first
      | (with_reducible exact ih0 _ _)
      | (with_reducible exact LeO.refl _)
      | (with_reducible exact LeO.none _)
      | (with_reducible refine LeO.ite ?_ ?_)
      | (with_reducible refine LeO.bind ?_ (fun _ => ?_))
      | exact ih0 _ _
      | exact LeO.none _
      | refine LeO.ite ?_ ?_
      | refine LeO.bind ?_ (fun _ => ?_)
set_option maxHeartbeats 8000000 in
set_option maxRecDepth 100000 in
theorem utf8_ValidRune.calls (k : Nat) (a0 : Int) (r : Bool) (w : World) (h : utf8_ValidRune.f k a0 = some r) :
    Calls Tryd.prog 86 #[.int .i32 a0] w fun e w' => e = .returned (.bool r) ∧ Drawn0 w w' := by
  have H : (if 0 ≤ a0 then (utf8_ValidRune.j0 k a0 (decide (a0 < 55296))) else (utf8_ValidRune.j0 k a0 false)) = some r := h
  clear h
  have HC2 := Aside0.mk H
  clear H
  go_enter Tryd.func86, Tryd.ntmps86
  go_upto_region 1 with (fail)
  go_cut [3] (fun v3 wc => ∃ (kq : Nat) (x3_1 : Bool), v3 = .bool x3_1 ∧ Aside0 (utf8_ValidRune.j0 kq a0 x3_1 = some r) ∧ Aside0 (kq ≤ k) ∧ Drawn0 w wc)
  case first =>
    have H := HC2.out
    clear HC2
    by_cases c3 : 0 ≤ a0
    · rw [if_pos c3] at H
      have c3b0 : decide (0 ≤ a0) = true := decide_eq_true c3
      clear c3
      (first | rw [c3b0] | (simp only [i64_w, i32_w]; rw [c3b0]) | skip)
      have H' := Aside0.mk H
      clear H
      go_wp2
      go_meet
      case rel => exact ⟨_, (decide (a0 < 55296)), (by first | rfl | (simp; done) | (simp [*]; done)), H', ⟨by first | omega | exact Nat.le_refl _⟩, by repeat (first | exact Drawn0.refl _ | apply Drawn0.step)⟩
    · rw [if_neg c3] at H
      have c3b0 : decide (0 ≤ a0) = false := decide_eq_false c3
      clear c3
      (first | rw [c3b0] | (simp only [i64_w, i32_w]; rw [c3b0]) | skip)
      have H' := Aside0.mk H
      clear H
      go_wp2
      go_meet
      case rel => exact ⟨_, (false), (by first | rfl | (simp; done) | (simp [*]; done)), H', ⟨by first | omega | exact Nat.le_refl _⟩, by repeat (first | exact Drawn0.refl _ | apply Drawn0.step)⟩
  case rest =>
    clear HC2
    try clear p2
    try clear c3
    try clear c3b0
    obtain ⟨kq, x3_1, rfl, HA, HJ1, ⟨mc1, rfl⟩⟩ := hcut
    cases kq with
    | zero => exact absurd HA.out (by simp [utf8_ValidRune.j0])
    | succ kj1 =>
      have H := HA.out
      clear HA
      simp only [utf8_ValidRune.j0] at H
      by_cases c4 : x3_1 = true
      · subst c4
        have H1 : (some true) = some r := by rw [if_pos rfl] at H; exact H
        clear H
        have H := H1
        clear H1
        obtain rfl := Option.some.inj H
        go_wp2
        go_ret
        exact ⟨by first | rfl | (simp; done) | (simp [*]; done), by repeat (first | exact Drawn0.refl _ | apply Drawn0.step)⟩
      · replace c4 := Bool.eq_false_iff.mpr c4
        subst c4
        have H1 : (if 57343 < a0 then (if a0 ≤ 1114111 then (some true) else (some false)) else (some false)) = some r := by rw [if_neg (show ¬ (false = true) by decide)] at H; exact H
        clear H
        have H := H1
        clear H1
        by_cases c5 : 57343 < a0
        · rw [if_pos c5] at H
          have c5b0 : decide (57343 < a0) = true := decide_eq_true c5
          clear c5
          by_cases c6 : a0 ≤ 1114111
          · rw [if_pos c6] at H
            have c6b0 : decide (a0 ≤ 1114111) = true := decide_eq_true c6
            clear c6
            obtain rfl := Option.some.inj H
            go_wp2
            go_ret
            exact ⟨by first | rfl | (simp; done) | (simp [*]; done), by repeat (first | exact Drawn0.refl _ | apply Drawn0.step)⟩
          · rw [if_neg c6] at H
            have c6b0 : decide (a0 ≤ 1114111) = false := decide_eq_false c6
            clear c6
            obtain rfl := Option.some.inj H
            go_wp2
            go_ret
            exact ⟨by first | rfl | (simp; done) | (simp [*]; done), by repeat (first | exact Drawn0.refl _ | apply Drawn0.step)⟩
        · rw [if_neg c5] at H
          have c5b0 : decide (57343 < a0) = false := decide_eq_false c5
          clear c5
          obtain rfl := Option.some.inj H
          go_wp2
          go_ret
          exact ⟨by first | rfl | (simp; done) | (simp [*]; done), by repeat (first | exact Drawn0.refl _ | apply Drawn0.step)⟩

/-! ### bytealg_Cutover: function 87 -/
def bytealg_Cutover.f (a0 : Int) : Option (Int) := some (wrap64 (Int.tdiv (wrap64 (a0 + 16)) 8))
set_option maxHeartbeats 8000000 in
set_option maxRecDepth 100000 in
theorem bytealg_Cutover.calls (a0 : Int) (r : Int) (w : World) (h : bytealg_Cutover.f a0 = some r) :
    Calls Tryd.prog 87 #[.int .i64 a0] w fun e w' => e = .returned (.int .i64 r) ∧ Drawn0 w w' := by
  have H : (some (wrap64 (Int.tdiv (wrap64 (a0 + 16)) 8))) = some r := h
  clear h
  obtain rfl := Option.some.inj H
  go_enter Tryd.func87, Tryd.ntmps87
  go_wp2
  go_ret
  exact ⟨by first | rfl | (simp; done) | (simp [*]; done), by repeat (first | exact Drawn0.refl _ | apply Drawn0.step)⟩

-- NOT PRINTED: function 88 (bytealg_IndexString)

-- NOT PRINTED: function 84 (strings_IndexRune)

-- NOT PRINTED: function 82 (strings_ContainsRune)

-- NOT PRINTED: function 79 (strings_trimLeftUnicode)

-- NOT PRINTED: function 67 (strings_TrimLeft)

end Go.Proofs.YtamhiecepipnjaaDoor.GApproxBack
