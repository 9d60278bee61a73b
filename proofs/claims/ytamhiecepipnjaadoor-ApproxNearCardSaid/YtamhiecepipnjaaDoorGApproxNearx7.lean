-- Written by gprint (wip/gprint), this session's program over the kit's print. Not trusted: Lean checks it.
import Derived.Test.YtamhiecepipnjaaDoorGApproxNearx0
import Derived.Test.YtamhiecepipnjaaDoorGApproxNearx1
import Derived.Test.YtamhiecepipnjaaDoorGApproxNearx4
import Derived.Test.YtamhiecepipnjaaDoorGApproxNearx5
import Derived.Test.YtamhiecepipnjaaDoorGApproxNearx6
namespace Go.Proofs.YtamhiecepipnjaaDoor.GApproxNear
open Go.RowKit Go.Proofs.YtamhiecepipnjaaDoorW.PrintWords Go.Proofs.YtamhiecepipnjaaDoorW.PrintLast Go.Proofs.YtamhiecepipnjaaDoorW.PrintMore
attribute [local go_sem] max2_int min2_int max_two min_two max_three min_three max_four min_four   -- for this text's walks alone
set_option linter.unusedVariables false
set_option linter.unusedSimpArgs false

/-! ### approx_Float: function 10 -/
variable {P : Program} {ops : Array Oper} {Q : Exit → Act → World → Prop} in
theorem approx_Float.goesV {rest : List Oper} {oi : Oper} {a : Act} {w : World} (N : Option Tmp) (hd : oi.dst = N) (hg : oi.guard = none) {f : FuncId} {fn : Func} {as_ : Array Operand} {ts : Array TypeId} {s : Tmp} (hf : P.funcs[f]? = some fn) (hname : (fn.name == "runtime.NumGoroutine") = false) (hb : fn.body.isSome = true) (args : Array Value)
  (hop : oi.op = .call { callee := .value (.tmp s), args := as_, argTypes := ts }) (hs : a.eval (.tmp s) = .func (.func f) #[] #[]) (hargs : as_.map a.eval = args)
  (h : Calls P f args w fun e w' => ∃ v, e = .returned v ∧ wpList P ops Q rest (a.put N v) w') : wpList P ops Q (oi :: rest) a w := by
 refine wpList_plain hg fun K hK => ?_
 have he := enters_ hf hname hb args w
 have hrun : (execOp a.eval oi).run P w = .ok (.enter f args) w := by
  unfold execOp
  rw [hop]
  simp [resolve, Deferred.ofValue, invoke, hs, hargs, he]
 unfold Oper.wp
 rw [hrun, Oper.upon_enter]
 refine h.mono fun e w'' hh => ?_
 obtain ⟨v, rfl, hk⟩ := hh
 subst hd
 exact hK _ _ hk
def approx_Float.f (k : Nat) (l0_0 : List Int) (l0_1 : List Int) : Option (Nat × Int) := (rat_Right.f k l0_0 l0_1).bind fun t339 => (if t339 = true then ((nat_Div.f k l0_0 l0_1).bind fun bt340 => ((nat_Bits.f bt340.1).bind fun t347 => (if t347 > 1024 then (none) else (if t347 ≥ 53 then ((approx_above.f k bt340.1 bt340.2.1 l0_1).bind fun bt348 => (if bt348.2.2 > 0 then ((math_Ldexp.f (floatOfInt FloatKind.f64 (IntKind.u64.wrap (bt348.1 + 1))) bt348.2.1).bind fun t351 => (some (t351, 0))) else (if bt348.2.2 = 0 then (if (Int.tmod bt348.1 2) = 1 then ((math_Ldexp.f (floatOfInt FloatKind.f64 (IntKind.u64.wrap (bt348.1 + 1))) bt348.2.1).bind fun t352 => (some (t352, 0))) else ((math_Ldexp.f (floatOfInt FloatKind.f64 bt348.1) bt348.2.1).bind fun t353 => (some (t353, 0)))) else ((math_Ldexp.f (floatOfInt FloatKind.f64 bt348.1) bt348.2.1).bind fun t354 => (some (t354, 0)))))) else ((approx_below.f k bt340.1 bt340.2.1 l0_1).bind fun bt355 => (if bt355.2.2 > 0 then ((math_Ldexp.f (floatOfInt FloatKind.f64 (IntKind.u64.wrap (bt355.1 + 1))) bt355.2.1).bind fun t358 => (some (t358, 0))) else (if bt355.2.2 = 0 then (if (Int.tmod bt355.1 2) = 1 then ((math_Ldexp.f (floatOfInt FloatKind.f64 (IntKind.u64.wrap (bt355.1 + 1))) bt355.2.1).bind fun t359 => (some (t359, 0))) else ((math_Ldexp.f (floatOfInt FloatKind.f64 bt355.1) bt355.2.1).bind fun t360 => (some (t360, 0)))) else ((math_Ldexp.f (floatOfInt FloatKind.f64 bt355.1) bt355.2.1).bind fun t361 => (some (t361, 0)))))))))) else (none))
theorem approx_Float.mono : ∀ a0 a1 k, LeO (approx_Float.f k a0 a1) (approx_Float.f (k + 1) a0 a1) := by
 intro a0 a1 k
 unfold approx_Float.f
 repeat' first
   | (with_reducible exact approx_above.mono _ _ _ _)
   | (with_reducible exact approx_below.mono _ _ _ _)
   | (with_reducible exact nat_Div.mono _ _ _)
   | (with_reducible exact rat_Right.mono _ _ _)
   | (with_reducible exact LeO.refl _)
   | (with_reducible exact LeO.none _)
   | (with_reducible refine LeO.ite ?_ ?_)
   | (with_reducible refine LeO.bind ?_ (fun _ => ?_))
   | exact approx_above.mono _ _ _ _
   | exact approx_below.mono _ _ _ _
   | exact nat_Div.mono _ _ _
   | exact rat_Right.mono _ _ _
   | exact LeO.none _
   | refine LeO.ite ?_ ?_
   | refine LeO.bind ?_ (fun _ => ?_)
set_option maxHeartbeats 8000000 in
set_option maxRecDepth 100000 in
theorem approx_Float.calls (k : Nat) (A0_0 : Option Addr) (c0_0 : Nat) (l0_0 : List Int) (A0_1 : Option Addr) (c0_1 : Nat) (l0_1 : List Int) (r1 : Nat) (r2 : Int) (w : World) (hr0_0 : Kd.C (Kd.int .u32) w A0_0 l0_0.length l0_0) (hc0_0 : l0_0.length ≤ c0_0) (hr0_1 : Kd.C (Kd.int .u32) w A0_1 l0_1.length l0_1) (hc0_1 : l0_1.length ≤ c0_1) (h : approx_Float.f k l0_0 l0_1 = some (r1, r2)) :
  Calls Tryd.prog 10 #[.agg #[.slice A0_0 l0_0.length c0_0, .slice A0_1 l0_1.length c0_1]] w fun e w' => e = .returned (.tuple #[.float .f64 r1, .int .i64 r2]) ∧ Below w.heap.size w w' := by
 have hu25 := Tryd.underlying25
 have HR0_0 := Aside0.mk hr0_0
 have HC0_0 := Aside0.mk hc0_0
 clear hr0_0 hc0_0
 have HR0_1 := Aside0.mk hr0_1
 have HC0_1 := Aside0.mk hc0_1
 clear hr0_1 hc0_1
 have HB := Aside0.mk (Below.refl w.heap.size w)
 have H : ((rat_Right.f k l0_0 l0_1).bind fun t339 => (if t339 = true then ((nat_Div.f k l0_0 l0_1).bind fun bt340 => ((nat_Bits.f bt340.1).bind fun t347 => (if t347 > 1024 then (none) else (if t347 ≥ 53 then ((approx_above.f k bt340.1 bt340.2.1 l0_1).bind fun bt348 => (if bt348.2.2 > 0 then ((math_Ldexp.f (floatOfInt FloatKind.f64 (IntKind.u64.wrap (bt348.1 + 1))) bt348.2.1).bind fun t351 => (some (t351, 0))) else (if bt348.2.2 = 0 then (if (Int.tmod bt348.1 2) = 1 then ((math_Ldexp.f (floatOfInt FloatKind.f64 (IntKind.u64.wrap (bt348.1 + 1))) bt348.2.1).bind fun t352 => (some (t352, 0))) else ((math_Ldexp.f (floatOfInt FloatKind.f64 bt348.1) bt348.2.1).bind fun t353 => (some (t353, 0)))) else ((math_Ldexp.f (floatOfInt FloatKind.f64 bt348.1) bt348.2.1).bind fun t354 => (some (t354, 0)))))) else ((approx_below.f k bt340.1 bt340.2.1 l0_1).bind fun bt355 => (if bt355.2.2 > 0 then ((math_Ldexp.f (floatOfInt FloatKind.f64 (IntKind.u64.wrap (bt355.1 + 1))) bt355.2.1).bind fun t358 => (some (t358, 0))) else (if bt355.2.2 = 0 then (if (Int.tmod bt355.1 2) = 1 then ((math_Ldexp.f (floatOfInt FloatKind.f64 (IntKind.u64.wrap (bt355.1 + 1))) bt355.2.1).bind fun t359 => (some (t359, 0))) else ((math_Ldexp.f (floatOfInt FloatKind.f64 bt355.1) bt355.2.1).bind fun t360 => (some (t360, 0)))) else ((math_Ldexp.f (floatOfInt FloatKind.f64 bt355.1) bt355.2.1).bind fun t361 => (some (t361, 0)))))))))) else (none))) = some (r1, r2) := h
 clear h
 obtain ⟨t339, A20, H⟩ := Option.bind_eq_some_iff.mp H
 try dsimp only at H
 have A2 := Aside0.mk A20
 clear A20
 by_cases c3 : t339 = true
 ·subst c3
  have H1 : ((nat_Div.f k l0_0 l0_1).bind fun bt340 => ((nat_Bits.f bt340.1).bind fun t347 => (if t347 > 1024 then (none) else (if t347 ≥ 53 then ((approx_above.f k bt340.1 bt340.2.1 l0_1).bind fun bt348 => (if bt348.2.2 > 0 then ((math_Ldexp.f (floatOfInt FloatKind.f64 (IntKind.u64.wrap (bt348.1 + 1))) bt348.2.1).bind fun t351 => (some (t351, 0))) else (if bt348.2.2 = 0 then (if (Int.tmod bt348.1 2) = 1 then ((math_Ldexp.f (floatOfInt FloatKind.f64 (IntKind.u64.wrap (bt348.1 + 1))) bt348.2.1).bind fun t352 => (some (t352, 0))) else ((math_Ldexp.f (floatOfInt FloatKind.f64 bt348.1) bt348.2.1).bind fun t353 => (some (t353, 0)))) else ((math_Ldexp.f (floatOfInt FloatKind.f64 bt348.1) bt348.2.1).bind fun t354 => (some (t354, 0)))))) else ((approx_below.f k bt340.1 bt340.2.1 l0_1).bind fun bt355 => (if bt355.2.2 > 0 then ((math_Ldexp.f (floatOfInt FloatKind.f64 (IntKind.u64.wrap (bt355.1 + 1))) bt355.2.1).bind fun t358 => (some (t358, 0))) else (if bt355.2.2 = 0 then (if (Int.tmod bt355.1 2) = 1 then ((math_Ldexp.f (floatOfInt FloatKind.f64 (IntKind.u64.wrap (bt355.1 + 1))) bt355.2.1).bind fun t359 => (some (t359, 0))) else ((math_Ldexp.f (floatOfInt FloatKind.f64 bt355.1) bt355.2.1).bind fun t360 => (some (t360, 0)))) else ((math_Ldexp.f (floatOfInt FloatKind.f64 bt355.1) bt355.2.1).bind fun t361 => (some (t361, 0)))))))))) = some (r1, r2) := by rw [if_pos rfl] at H; exact H
  clear H
  have H := H1
  clear H1
  obtain ⟨⟨t340, t341, t342⟩, A40, H⟩ := Option.bind_eq_some_iff.mp H
  try dsimp only at H
  have A4 := Aside0.mk A40
  clear A40
  obtain ⟨t347, A50, H⟩ := Option.bind_eq_some_iff.mp H
  try dsimp only at H
  have A5 := Aside0.mk A50
  clear A50
  by_cases c6 : t347 > 1024
  ·rw [if_pos c6] at H
   exact absurd H (by simp)
  ·rw [if_neg c6] at H
   have c6b0 : decide (1024 < t347) = false := decide_eq_false c6
   clear c6
   by_cases c7 : t347 ≥ 53
   ·rw [if_pos c7] at H
    have c7b0 : decide (53 ≤ t347) = true := decide_eq_true c7
    clear c7
    obtain ⟨⟨t348, t349, t350⟩, A80, H⟩ := Option.bind_eq_some_iff.mp H
    try dsimp only at H
    have A8 := Aside0.mk A80
    clear A80
    by_cases c9 : t350 > 0
    ·rw [if_pos c9] at H
     have c9b0 : decide (0 < t350) = true := decide_eq_true c9
     clear c9
     obtain ⟨t351, A100, H⟩ := Option.bind_eq_some_iff.mp H
     try dsimp only at H
     have A10 := Aside0.mk A100
     clear A100
     simp only [Option.some.injEq, Prod.mk.injEq] at H
     obtain ⟨rfl, rfl⟩ := H
     go_enter Tryd.func10, Tryd.ntmps10
     go_wp2_with (first | ((with_reducible refine gate_dst (N := 1) rfl ?_); refine box_event ?hg (N := 1) ?hd (cs := #[.slice A0_0 l0_0.length c0_0, .slice A0_1 l0_1.length c0_1]) (t := 25) ?hr ?_; (case hd => rfl); (case hg => rfl); (case hr => first | (go_simp; done) | (go_simp; rfl)); intro gb338 hg w11 hbox hb; have n0_ := Aside0.mk (below_step qB hb); have n1_ := Aside0.mk (hbox); have n2_ := Aside0.mk ((qZ hg : w.heap.size ≤ gb338)); have n3_ := Aside0.mk ((qZ hg : w.heap.size ≤ gb338)); clear HB; have HB := n0_; have BK338 := n1_; have GW338 := n2_; have GE338 := n3_; clear n0_ n1_ n2_ n3_; clear hb hbox hg; have hcz12_0 : w11.cell? ⟨gb338, 0, none⟩ = some (.slice A0_0 l0_0.length c0_0) := (blk_cell BK338.out 0).trans rfl; have hcz12_1 : w11.cell? ⟨gb338, 1, none⟩ = some (.slice A0_1 l0_1.length c0_1) := (blk_cell BK338.out 1).trans rfl; have hfz12_0 := blk_frozen BK338.out 0; have hfz12_1 := blk_frozen BK338.out 1) | ((with_reducible refine gate_callee (f := 7) rfl ?_); refine goesL_ (some 13) rfl rfl Tryd.func7 (by kernel_rfl) rfl #[.agg #[.slice A0_0 l0_0.length c0_0, .slice A0_1 l0_1.length c0_1]] rfl qL ?_; (with_reducible refine (rat_Right.calls k _ _ l0_0 _ _ l0_1 true _ ?side1 ?side2 ?side3 ?side4 A2.out).mono ?_); (case side1 => exact qC (Kd.C_below HR0_0.out HB.out)); (case side2 => exact HC0_0.out); (case side3 => exact qC (Kd.C_below HR0_1.out HB.out)); (case side4 => exact HC0_1.out); rintro e w13 ⟨rfl, hb⟩; refine ⟨_, rfl, ?_⟩; have n0_ := Aside0.mk (blk_below (g := gb338) (o := .cells #[.slice A0_0 l0_0.length c0_0, .slice A0_1 l0_1.length c0_1] 25 (0, 0)) (qK BK338.out) hb); have n1_ := Aside0.mk (below_step (qG GE338.out) hb); clear BK338; clear HB; have BK338 := n0_; have HB := n1_; clear n0_ n1_; (try clear hb); (try clear hb2); (try clear hk); (try clear hi); have hcz14_0 : w13.cell? ⟨gb338, 0, none⟩ = some (.slice A0_0 l0_0.length c0_0) := (blk_cell BK338.out 0).trans rfl; have hcz14_1 : w13.cell? ⟨gb338, 1, none⟩ = some (.slice A0_1 l0_1.length c0_1) := (blk_cell BK338.out 1).trans rfl; have hfz14_0 := blk_frozen BK338.out 0; have hfz14_1 := blk_frozen BK338.out 1) | ((with_reducible refine gate_callee (f := 25) rfl ?_); refine goesL_ (some 20) rfl rfl Tryd.func25 (by kernel_rfl) rfl #[.slice A0_0 l0_0.length c0_0, .slice A0_1 l0_1.length c0_1] rfl qL ?_; (with_reducible refine (nat_Div.calls k _ _ l0_0 _ _ l0_1 t340 t341 t342 _ ?side1 ?side2 ?side3 ?side4 A4.out).mono ?_); (case side1 => exact qC (Kd.C_below HR0_0.out HB.out)); (case side2 => exact HC0_0.out); (case side3 => exact qC (Kd.C_below HR0_1.out HB.out)); (case side4 => exact HC0_1.out); rintro e w15 ⟨v343, v345, rfl, ho0, ho1, hb⟩; refine ⟨_, rfl, ?_⟩; have n0_ := Aside0.mk (Kd.R_lower ho0 (below_size (qG GE338.out))); have n1_ := Aside0.mk (Kd.R_lower ho1 (below_size (qG GE338.out))); have n2_ := Aside0.mk (blk_below (g := gb338) (o := .cells #[.slice A0_0 l0_0.length c0_0, .slice A0_1 l0_1.length c0_1] 25 (0, 0)) (qK BK338.out) hb); have n3_ := Aside0.mk (below_step (qG GE338.out) hb); clear BK338; clear HB; have HO344 := n0_; have HO346 := n1_; have BK338 := n2_; have HB := n3_; clear n0_ n1_ n2_ n3_; (try clear hb); (try clear hb2); (try clear hk); (try clear hi); (try clear ho0); (try clear ho1); obtain ⟨Ao16, co16, eo16⟩ := Kd.R_slice HO344.out; subst eo16) | ((with_reducible refine gate_callee (f := 26) rfl ?_); refine goesL_ (some 25) rfl rfl Tryd.func26 (by kernel_rfl) rfl #[.slice Ao16 t340.length co16] rfl qL ?_; (with_reducible refine (nat_Bits.calls _ _ t340 t347 _ ?side1 ?side2 A5.out).mono ?_); (case side1 => exact qC (Kd.R_reads' HO344.out).2.2); (case side2 => exact (Kd.R_reads' HO344.out).2.1); rintro e w' ⟨rfl, ⟨nd, rfl⟩⟩; refine ⟨_, rfl, ?_⟩; have hcz17_0 : w15.cell? ⟨gb338, 0, none⟩ = some (.slice A0_0 l0_0.length c0_0) := (blk_cell BK338.out 0).trans rfl; have hcz17_1 : w15.cell? ⟨gb338, 1, none⟩ = some (.slice A0_1 l0_1.length c0_1) := (blk_cell BK338.out 1).trans rfl; have hfz17_0 := blk_frozen BK338.out 0; have hfz17_1 := blk_frozen BK338.out 1; obtain ⟨Ao18, co18, eo18⟩ := Kd.R_slice HO346.out; subst eo18) | ((with_reducible refine gate_dst (N := 37) rfl ?_); refine approx_Float.goesV (some 37) rfl rfl Tryd.func28 (by kernel_rfl) rfl #[.slice Ao16 t340.length co16, .slice Ao18 t341.length co18, .slice A0_1 l0_1.length c0_1] rfl rfl qL ?_; (with_reducible refine (approx_above.calls k _ _ t340 _ _ t341 _ _ l0_1 t348 t349 t350 _ ?side1 ?side2 ?side3 ?side4 ?side5 ?side6 A8.out).mono ?_); (case side1 => exact qC (Kd.R_reads' HO344.out).2.2); (case side2 => exact (Kd.R_reads' HO344.out).2.1); (case side3 => exact qC (Kd.R_reads' HO346.out).2.2); (case side4 => exact (Kd.R_reads' HO346.out).2.1); (case side5 => exact qC (Kd.C_below HR0_1.out (qG GE338.out))); (case side6 => exact HC0_1.out); rintro e w19 ⟨rfl, hb⟩; refine ⟨_, rfl, ?_⟩; have n0_ := Aside0.mk (Kd.R_below (qR HO344.out) hb); have n1_ := Aside0.mk (Kd.R_below (qR HO346.out) hb); have n2_ := Aside0.mk (blk_below (g := gb338) (o := .cells #[.slice A0_0 l0_0.length c0_0, .slice A0_1 l0_1.length c0_1] 25 (0, 0)) (qK BK338.out) hb); have n3_ := Aside0.mk (below_step (qG GE338.out) hb); clear HO344; clear HO346; clear BK338; clear HB; have HO344 := n0_; have HO346 := n1_; have BK338 := n2_; have HB := n3_; clear n0_ n1_ n2_ n3_; (try clear hb); (try clear hb2); (try clear hk); (try clear hi)) | ((with_reducible refine gate_callee (f := 29) rfl ?_); refine goesL_ (some 57) rfl rfl Tryd.func29 (by kernel_rfl) rfl #[.float .f64 (floatOfInt FloatKind.f64 (IntKind.u64.wrap (t348 + 1))), .int .i64 t349] rfl qL ?_; (with_reducible refine (math_Ldexp.calls (floatOfInt FloatKind.f64 (IntKind.u64.wrap (t348 + 1))) t349 t351 _ A10.out).mono ?_); rintro e w' ⟨rfl, ⟨nd, rfl⟩⟩; refine ⟨_, rfl, ?_⟩))
     go_ret2
     exact ⟨by first | rfl | (simp [errW_none, errW_some] <;> rfl) | (simp [*, errW_none, errW_some] <;> rfl), by repeat (first | (with_reducible first | exact HB.out | apply below_alloc | apply pw_below_drewN | apply below_drew1 | refine below_set ?_ GE338.out) | exact HB.out)⟩
    ·rw [if_neg c9] at H
     have c9b0 : decide (0 < t350) = false := decide_eq_false c9
     clear c9
     by_cases c20 : t350 = 0
     ·rw [if_pos c20] at H
      have c20b0 : (t350 == 0) = true := beq_iff_eq.mpr c20
      have c20b1 : (t350 != 0) = false := bne_eq_false_iff_eq.mpr c20
      clear c20
      by_cases c21 : (Int.tmod t348 2) = 1
      ·rw [if_pos c21] at H
       have c21b0 : ((Int.tmod t348 2) == 1) = true := beq_iff_eq.mpr c21
       have c21b1 : ((Int.tmod t348 2) != 1) = false := bne_eq_false_iff_eq.mpr c21
       clear c21
       obtain ⟨t352, A220, H⟩ := Option.bind_eq_some_iff.mp H
       try dsimp only at H
       have A22 := Aside0.mk A220
       clear A220
       simp only [Option.some.injEq, Prod.mk.injEq] at H
       obtain ⟨rfl, rfl⟩ := H
       go_enter Tryd.func10, Tryd.ntmps10
       go_wp2_with (first | ((with_reducible refine gate_dst (N := 1) rfl ?_); refine box_event ?hg (N := 1) ?hd (cs := #[.slice A0_0 l0_0.length c0_0, .slice A0_1 l0_1.length c0_1]) (t := 25) ?hr ?_; (case hd => rfl); (case hg => rfl); (case hr => first | (go_simp; done) | (go_simp; rfl)); intro gb338 hg w23 hbox hb; have n0_ := Aside0.mk (below_step qB hb); have n1_ := Aside0.mk (hbox); have n2_ := Aside0.mk ((qZ hg : w.heap.size ≤ gb338)); have n3_ := Aside0.mk ((qZ hg : w.heap.size ≤ gb338)); clear HB; have HB := n0_; have BK338 := n1_; have GW338 := n2_; have GE338 := n3_; clear n0_ n1_ n2_ n3_; clear hb hbox hg; have hcz24_0 : w23.cell? ⟨gb338, 0, none⟩ = some (.slice A0_0 l0_0.length c0_0) := (blk_cell BK338.out 0).trans rfl; have hcz24_1 : w23.cell? ⟨gb338, 1, none⟩ = some (.slice A0_1 l0_1.length c0_1) := (blk_cell BK338.out 1).trans rfl; have hfz24_0 := blk_frozen BK338.out 0; have hfz24_1 := blk_frozen BK338.out 1) | ((with_reducible refine gate_callee (f := 7) rfl ?_); refine goesL_ (some 13) rfl rfl Tryd.func7 (by kernel_rfl) rfl #[.agg #[.slice A0_0 l0_0.length c0_0, .slice A0_1 l0_1.length c0_1]] rfl qL ?_; (with_reducible refine (rat_Right.calls k _ _ l0_0 _ _ l0_1 true _ ?side1 ?side2 ?side3 ?side4 A2.out).mono ?_); (case side1 => exact qC (Kd.C_below HR0_0.out HB.out)); (case side2 => exact HC0_0.out); (case side3 => exact qC (Kd.C_below HR0_1.out HB.out)); (case side4 => exact HC0_1.out); rintro e w25 ⟨rfl, hb⟩; refine ⟨_, rfl, ?_⟩; have n0_ := Aside0.mk (blk_below (g := gb338) (o := .cells #[.slice A0_0 l0_0.length c0_0, .slice A0_1 l0_1.length c0_1] 25 (0, 0)) (qK BK338.out) hb); have n1_ := Aside0.mk (below_step (qG GE338.out) hb); clear BK338; clear HB; have BK338 := n0_; have HB := n1_; clear n0_ n1_; (try clear hb); (try clear hb2); (try clear hk); (try clear hi); have hcz26_0 : w25.cell? ⟨gb338, 0, none⟩ = some (.slice A0_0 l0_0.length c0_0) := (blk_cell BK338.out 0).trans rfl; have hcz26_1 : w25.cell? ⟨gb338, 1, none⟩ = some (.slice A0_1 l0_1.length c0_1) := (blk_cell BK338.out 1).trans rfl; have hfz26_0 := blk_frozen BK338.out 0; have hfz26_1 := blk_frozen BK338.out 1) | ((with_reducible refine gate_callee (f := 25) rfl ?_); refine goesL_ (some 20) rfl rfl Tryd.func25 (by kernel_rfl) rfl #[.slice A0_0 l0_0.length c0_0, .slice A0_1 l0_1.length c0_1] rfl qL ?_; (with_reducible refine (nat_Div.calls k _ _ l0_0 _ _ l0_1 t340 t341 t342 _ ?side1 ?side2 ?side3 ?side4 A4.out).mono ?_); (case side1 => exact qC (Kd.C_below HR0_0.out HB.out)); (case side2 => exact HC0_0.out); (case side3 => exact qC (Kd.C_below HR0_1.out HB.out)); (case side4 => exact HC0_1.out); rintro e w27 ⟨v343, v345, rfl, ho0, ho1, hb⟩; refine ⟨_, rfl, ?_⟩; have n0_ := Aside0.mk (Kd.R_lower ho0 (below_size (qG GE338.out))); have n1_ := Aside0.mk (Kd.R_lower ho1 (below_size (qG GE338.out))); have n2_ := Aside0.mk (blk_below (g := gb338) (o := .cells #[.slice A0_0 l0_0.length c0_0, .slice A0_1 l0_1.length c0_1] 25 (0, 0)) (qK BK338.out) hb); have n3_ := Aside0.mk (below_step (qG GE338.out) hb); clear BK338; clear HB; have HO344 := n0_; have HO346 := n1_; have BK338 := n2_; have HB := n3_; clear n0_ n1_ n2_ n3_; (try clear hb); (try clear hb2); (try clear hk); (try clear hi); (try clear ho0); (try clear ho1); obtain ⟨Ao28, co28, eo28⟩ := Kd.R_slice HO344.out; subst eo28) | ((with_reducible refine gate_callee (f := 26) rfl ?_); refine goesL_ (some 25) rfl rfl Tryd.func26 (by kernel_rfl) rfl #[.slice Ao28 t340.length co28] rfl qL ?_; (with_reducible refine (nat_Bits.calls _ _ t340 t347 _ ?side1 ?side2 A5.out).mono ?_); (case side1 => exact qC (Kd.R_reads' HO344.out).2.2); (case side2 => exact (Kd.R_reads' HO344.out).2.1); rintro e w' ⟨rfl, ⟨nd, rfl⟩⟩; refine ⟨_, rfl, ?_⟩; have hcz29_0 : w27.cell? ⟨gb338, 0, none⟩ = some (.slice A0_0 l0_0.length c0_0) := (blk_cell BK338.out 0).trans rfl; have hcz29_1 : w27.cell? ⟨gb338, 1, none⟩ = some (.slice A0_1 l0_1.length c0_1) := (blk_cell BK338.out 1).trans rfl; have hfz29_0 := blk_frozen BK338.out 0; have hfz29_1 := blk_frozen BK338.out 1; obtain ⟨Ao30, co30, eo30⟩ := Kd.R_slice HO346.out; subst eo30) | ((with_reducible refine gate_dst (N := 37) rfl ?_); refine approx_Float.goesV (some 37) rfl rfl Tryd.func28 (by kernel_rfl) rfl #[.slice Ao28 t340.length co28, .slice Ao30 t341.length co30, .slice A0_1 l0_1.length c0_1] rfl rfl qL ?_; (with_reducible refine (approx_above.calls k _ _ t340 _ _ t341 _ _ l0_1 t348 t349 t350 _ ?side1 ?side2 ?side3 ?side4 ?side5 ?side6 A8.out).mono ?_); (case side1 => exact qC (Kd.R_reads' HO344.out).2.2); (case side2 => exact (Kd.R_reads' HO344.out).2.1); (case side3 => exact qC (Kd.R_reads' HO346.out).2.2); (case side4 => exact (Kd.R_reads' HO346.out).2.1); (case side5 => exact qC (Kd.C_below HR0_1.out (qG GE338.out))); (case side6 => exact HC0_1.out); rintro e w31 ⟨rfl, hb⟩; refine ⟨_, rfl, ?_⟩; have n0_ := Aside0.mk (Kd.R_below (qR HO344.out) hb); have n1_ := Aside0.mk (Kd.R_below (qR HO346.out) hb); have n2_ := Aside0.mk (blk_below (g := gb338) (o := .cells #[.slice A0_0 l0_0.length c0_0, .slice A0_1 l0_1.length c0_1] 25 (0, 0)) (qK BK338.out) hb); have n3_ := Aside0.mk (below_step (qG GE338.out) hb); clear HO344; clear HO346; clear BK338; clear HB; have HO344 := n0_; have HO346 := n1_; have BK338 := n2_; have HB := n3_; clear n0_ n1_ n2_ n3_; (try clear hb); (try clear hb2); (try clear hk); (try clear hi)) | ((with_reducible refine gate_callee (f := 29) rfl ?_); refine goesL_ (some 57) rfl rfl Tryd.func29 (by kernel_rfl) rfl #[.float .f64 (floatOfInt FloatKind.f64 (IntKind.u64.wrap (t348 + 1))), .int .i64 t349] rfl qL ?_; (with_reducible refine (math_Ldexp.calls (floatOfInt FloatKind.f64 (IntKind.u64.wrap (t348 + 1))) t349 t352 _ A22.out).mono ?_); rintro e w' ⟨rfl, ⟨nd, rfl⟩⟩; refine ⟨_, rfl, ?_⟩))
       go_ret2
       exact ⟨by first | rfl | (simp [errW_none, errW_some] <;> rfl) | (simp [*, errW_none, errW_some] <;> rfl), by repeat (first | (with_reducible first | exact HB.out | apply below_alloc | apply pw_below_drewN | apply below_drew1 | refine below_set ?_ GE338.out) | exact HB.out)⟩
      ·rw [if_neg c21] at H
       have c21b0 : ((Int.tmod t348 2) == 1) = false := beq_eq_false_iff_ne.mpr c21
       have c21b1 : ((Int.tmod t348 2) != 1) = true := bne_iff_ne.mpr c21
       obtain ⟨t353, A320, H⟩ := Option.bind_eq_some_iff.mp H
       try dsimp only at H
       have A32 := Aside0.mk A320
       clear A320
       simp only [Option.some.injEq, Prod.mk.injEq] at H
       obtain ⟨rfl, rfl⟩ := H
       go_enter Tryd.func10, Tryd.ntmps10
       go_wp2_with (first | ((with_reducible refine gate_dst (N := 1) rfl ?_); refine box_event ?hg (N := 1) ?hd (cs := #[.slice A0_0 l0_0.length c0_0, .slice A0_1 l0_1.length c0_1]) (t := 25) ?hr ?_; (case hd => rfl); (case hg => rfl); (case hr => first | (go_simp; done) | (go_simp; rfl)); intro gb338 hg w33 hbox hb; have n0_ := Aside0.mk (below_step qB hb); have n1_ := Aside0.mk (hbox); have n2_ := Aside0.mk ((qZ hg : w.heap.size ≤ gb338)); have n3_ := Aside0.mk ((qZ hg : w.heap.size ≤ gb338)); clear HB; have HB := n0_; have BK338 := n1_; have GW338 := n2_; have GE338 := n3_; clear n0_ n1_ n2_ n3_; clear hb hbox hg; have hcz34_0 : w33.cell? ⟨gb338, 0, none⟩ = some (.slice A0_0 l0_0.length c0_0) := (blk_cell BK338.out 0).trans rfl; have hcz34_1 : w33.cell? ⟨gb338, 1, none⟩ = some (.slice A0_1 l0_1.length c0_1) := (blk_cell BK338.out 1).trans rfl; have hfz34_0 := blk_frozen BK338.out 0; have hfz34_1 := blk_frozen BK338.out 1) | ((with_reducible refine gate_callee (f := 7) rfl ?_); refine goesL_ (some 13) rfl rfl Tryd.func7 (by kernel_rfl) rfl #[.agg #[.slice A0_0 l0_0.length c0_0, .slice A0_1 l0_1.length c0_1]] rfl qL ?_; (with_reducible refine (rat_Right.calls k _ _ l0_0 _ _ l0_1 true _ ?side1 ?side2 ?side3 ?side4 A2.out).mono ?_); (case side1 => exact qC (Kd.C_below HR0_0.out HB.out)); (case side2 => exact HC0_0.out); (case side3 => exact qC (Kd.C_below HR0_1.out HB.out)); (case side4 => exact HC0_1.out); rintro e w35 ⟨rfl, hb⟩; refine ⟨_, rfl, ?_⟩; have n0_ := Aside0.mk (blk_below (g := gb338) (o := .cells #[.slice A0_0 l0_0.length c0_0, .slice A0_1 l0_1.length c0_1] 25 (0, 0)) (qK BK338.out) hb); have n1_ := Aside0.mk (below_step (qG GE338.out) hb); clear BK338; clear HB; have BK338 := n0_; have HB := n1_; clear n0_ n1_; (try clear hb); (try clear hb2); (try clear hk); (try clear hi); have hcz36_0 : w35.cell? ⟨gb338, 0, none⟩ = some (.slice A0_0 l0_0.length c0_0) := (blk_cell BK338.out 0).trans rfl; have hcz36_1 : w35.cell? ⟨gb338, 1, none⟩ = some (.slice A0_1 l0_1.length c0_1) := (blk_cell BK338.out 1).trans rfl; have hfz36_0 := blk_frozen BK338.out 0; have hfz36_1 := blk_frozen BK338.out 1) | ((with_reducible refine gate_callee (f := 25) rfl ?_); refine goesL_ (some 20) rfl rfl Tryd.func25 (by kernel_rfl) rfl #[.slice A0_0 l0_0.length c0_0, .slice A0_1 l0_1.length c0_1] rfl qL ?_; (with_reducible refine (nat_Div.calls k _ _ l0_0 _ _ l0_1 t340 t341 t342 _ ?side1 ?side2 ?side3 ?side4 A4.out).mono ?_); (case side1 => exact qC (Kd.C_below HR0_0.out HB.out)); (case side2 => exact HC0_0.out); (case side3 => exact qC (Kd.C_below HR0_1.out HB.out)); (case side4 => exact HC0_1.out); rintro e w37 ⟨v343, v345, rfl, ho0, ho1, hb⟩; refine ⟨_, rfl, ?_⟩; have n0_ := Aside0.mk (Kd.R_lower ho0 (below_size (qG GE338.out))); have n1_ := Aside0.mk (Kd.R_lower ho1 (below_size (qG GE338.out))); have n2_ := Aside0.mk (blk_below (g := gb338) (o := .cells #[.slice A0_0 l0_0.length c0_0, .slice A0_1 l0_1.length c0_1] 25 (0, 0)) (qK BK338.out) hb); have n3_ := Aside0.mk (below_step (qG GE338.out) hb); clear BK338; clear HB; have HO344 := n0_; have HO346 := n1_; have BK338 := n2_; have HB := n3_; clear n0_ n1_ n2_ n3_; (try clear hb); (try clear hb2); (try clear hk); (try clear hi); (try clear ho0); (try clear ho1); obtain ⟨Ao38, co38, eo38⟩ := Kd.R_slice HO344.out; subst eo38) | ((with_reducible refine gate_callee (f := 26) rfl ?_); refine goesL_ (some 25) rfl rfl Tryd.func26 (by kernel_rfl) rfl #[.slice Ao38 t340.length co38] rfl qL ?_; (with_reducible refine (nat_Bits.calls _ _ t340 t347 _ ?side1 ?side2 A5.out).mono ?_); (case side1 => exact qC (Kd.R_reads' HO344.out).2.2); (case side2 => exact (Kd.R_reads' HO344.out).2.1); rintro e w' ⟨rfl, ⟨nd, rfl⟩⟩; refine ⟨_, rfl, ?_⟩; have hcz39_0 : w37.cell? ⟨gb338, 0, none⟩ = some (.slice A0_0 l0_0.length c0_0) := (blk_cell BK338.out 0).trans rfl; have hcz39_1 : w37.cell? ⟨gb338, 1, none⟩ = some (.slice A0_1 l0_1.length c0_1) := (blk_cell BK338.out 1).trans rfl; have hfz39_0 := blk_frozen BK338.out 0; have hfz39_1 := blk_frozen BK338.out 1; obtain ⟨Ao40, co40, eo40⟩ := Kd.R_slice HO346.out; subst eo40) | ((with_reducible refine gate_dst (N := 37) rfl ?_); refine approx_Float.goesV (some 37) rfl rfl Tryd.func28 (by kernel_rfl) rfl #[.slice Ao38 t340.length co38, .slice Ao40 t341.length co40, .slice A0_1 l0_1.length c0_1] rfl rfl qL ?_; (with_reducible refine (approx_above.calls k _ _ t340 _ _ t341 _ _ l0_1 t348 t349 t350 _ ?side1 ?side2 ?side3 ?side4 ?side5 ?side6 A8.out).mono ?_); (case side1 => exact qC (Kd.R_reads' HO344.out).2.2); (case side2 => exact (Kd.R_reads' HO344.out).2.1); (case side3 => exact qC (Kd.R_reads' HO346.out).2.2); (case side4 => exact (Kd.R_reads' HO346.out).2.1); (case side5 => exact qC (Kd.C_below HR0_1.out (qG GE338.out))); (case side6 => exact HC0_1.out); rintro e w41 ⟨rfl, hb⟩; refine ⟨_, rfl, ?_⟩; have n0_ := Aside0.mk (Kd.R_below (qR HO344.out) hb); have n1_ := Aside0.mk (Kd.R_below (qR HO346.out) hb); have n2_ := Aside0.mk (blk_below (g := gb338) (o := .cells #[.slice A0_0 l0_0.length c0_0, .slice A0_1 l0_1.length c0_1] 25 (0, 0)) (qK BK338.out) hb); have n3_ := Aside0.mk (below_step (qG GE338.out) hb); clear HO344; clear HO346; clear BK338; clear HB; have HO344 := n0_; have HO346 := n1_; have BK338 := n2_; have HB := n3_; clear n0_ n1_ n2_ n3_; (try clear hb); (try clear hb2); (try clear hk); (try clear hi)) | ((with_reducible refine gate_callee (f := 29) rfl ?_); refine goesL_ (some 57) rfl rfl Tryd.func29 (by kernel_rfl) rfl #[.float .f64 (floatOfInt FloatKind.f64 t348), .int .i64 t349] rfl qL ?_; (with_reducible refine (math_Ldexp.calls (floatOfInt FloatKind.f64 t348) t349 t353 _ A32.out).mono ?_); rintro e w' ⟨rfl, ⟨nd, rfl⟩⟩; refine ⟨_, rfl, ?_⟩))
       go_ret2
       exact ⟨by first | rfl | (simp [errW_none, errW_some] <;> rfl) | (simp [*, errW_none, errW_some] <;> rfl), by repeat (first | (with_reducible first | exact HB.out | apply below_alloc | apply pw_below_drewN | apply below_drew1 | refine below_set ?_ GE338.out) | exact HB.out)⟩
     ·rw [if_neg c20] at H
      have c20b0 : (t350 == 0) = false := beq_eq_false_iff_ne.mpr c20
      have c20b1 : (t350 != 0) = true := bne_iff_ne.mpr c20
      obtain ⟨t354, A420, H⟩ := Option.bind_eq_some_iff.mp H
      try dsimp only at H
      have A42 := Aside0.mk A420
      clear A420
      simp only [Option.some.injEq, Prod.mk.injEq] at H
      obtain ⟨rfl, rfl⟩ := H
      go_enter Tryd.func10, Tryd.ntmps10
      go_wp2_with (first | ((with_reducible refine gate_dst (N := 1) rfl ?_); refine box_event ?hg (N := 1) ?hd (cs := #[.slice A0_0 l0_0.length c0_0, .slice A0_1 l0_1.length c0_1]) (t := 25) ?hr ?_; (case hd => rfl); (case hg => rfl); (case hr => first | (go_simp; done) | (go_simp; rfl)); intro gb338 hg w43 hbox hb; have n0_ := Aside0.mk (below_step qB hb); have n1_ := Aside0.mk (hbox); have n2_ := Aside0.mk ((qZ hg : w.heap.size ≤ gb338)); have n3_ := Aside0.mk ((qZ hg : w.heap.size ≤ gb338)); clear HB; have HB := n0_; have BK338 := n1_; have GW338 := n2_; have GE338 := n3_; clear n0_ n1_ n2_ n3_; clear hb hbox hg; have hcz44_0 : w43.cell? ⟨gb338, 0, none⟩ = some (.slice A0_0 l0_0.length c0_0) := (blk_cell BK338.out 0).trans rfl; have hcz44_1 : w43.cell? ⟨gb338, 1, none⟩ = some (.slice A0_1 l0_1.length c0_1) := (blk_cell BK338.out 1).trans rfl; have hfz44_0 := blk_frozen BK338.out 0; have hfz44_1 := blk_frozen BK338.out 1) | ((with_reducible refine gate_callee (f := 7) rfl ?_); refine goesL_ (some 13) rfl rfl Tryd.func7 (by kernel_rfl) rfl #[.agg #[.slice A0_0 l0_0.length c0_0, .slice A0_1 l0_1.length c0_1]] rfl qL ?_; (with_reducible refine (rat_Right.calls k _ _ l0_0 _ _ l0_1 true _ ?side1 ?side2 ?side3 ?side4 A2.out).mono ?_); (case side1 => exact qC (Kd.C_below HR0_0.out HB.out)); (case side2 => exact HC0_0.out); (case side3 => exact qC (Kd.C_below HR0_1.out HB.out)); (case side4 => exact HC0_1.out); rintro e w45 ⟨rfl, hb⟩; refine ⟨_, rfl, ?_⟩; have n0_ := Aside0.mk (blk_below (g := gb338) (o := .cells #[.slice A0_0 l0_0.length c0_0, .slice A0_1 l0_1.length c0_1] 25 (0, 0)) (qK BK338.out) hb); have n1_ := Aside0.mk (below_step (qG GE338.out) hb); clear BK338; clear HB; have BK338 := n0_; have HB := n1_; clear n0_ n1_; (try clear hb); (try clear hb2); (try clear hk); (try clear hi); have hcz46_0 : w45.cell? ⟨gb338, 0, none⟩ = some (.slice A0_0 l0_0.length c0_0) := (blk_cell BK338.out 0).trans rfl; have hcz46_1 : w45.cell? ⟨gb338, 1, none⟩ = some (.slice A0_1 l0_1.length c0_1) := (blk_cell BK338.out 1).trans rfl; have hfz46_0 := blk_frozen BK338.out 0; have hfz46_1 := blk_frozen BK338.out 1) | ((with_reducible refine gate_callee (f := 25) rfl ?_); refine goesL_ (some 20) rfl rfl Tryd.func25 (by kernel_rfl) rfl #[.slice A0_0 l0_0.length c0_0, .slice A0_1 l0_1.length c0_1] rfl qL ?_; (with_reducible refine (nat_Div.calls k _ _ l0_0 _ _ l0_1 t340 t341 t342 _ ?side1 ?side2 ?side3 ?side4 A4.out).mono ?_); (case side1 => exact qC (Kd.C_below HR0_0.out HB.out)); (case side2 => exact HC0_0.out); (case side3 => exact qC (Kd.C_below HR0_1.out HB.out)); (case side4 => exact HC0_1.out); rintro e w47 ⟨v343, v345, rfl, ho0, ho1, hb⟩; refine ⟨_, rfl, ?_⟩; have n0_ := Aside0.mk (Kd.R_lower ho0 (below_size (qG GE338.out))); have n1_ := Aside0.mk (Kd.R_lower ho1 (below_size (qG GE338.out))); have n2_ := Aside0.mk (blk_below (g := gb338) (o := .cells #[.slice A0_0 l0_0.length c0_0, .slice A0_1 l0_1.length c0_1] 25 (0, 0)) (qK BK338.out) hb); have n3_ := Aside0.mk (below_step (qG GE338.out) hb); clear BK338; clear HB; have HO344 := n0_; have HO346 := n1_; have BK338 := n2_; have HB := n3_; clear n0_ n1_ n2_ n3_; (try clear hb); (try clear hb2); (try clear hk); (try clear hi); (try clear ho0); (try clear ho1); obtain ⟨Ao48, co48, eo48⟩ := Kd.R_slice HO344.out; subst eo48) | ((with_reducible refine gate_callee (f := 26) rfl ?_); refine goesL_ (some 25) rfl rfl Tryd.func26 (by kernel_rfl) rfl #[.slice Ao48 t340.length co48] rfl qL ?_; (with_reducible refine (nat_Bits.calls _ _ t340 t347 _ ?side1 ?side2 A5.out).mono ?_); (case side1 => exact qC (Kd.R_reads' HO344.out).2.2); (case side2 => exact (Kd.R_reads' HO344.out).2.1); rintro e w' ⟨rfl, ⟨nd, rfl⟩⟩; refine ⟨_, rfl, ?_⟩; have hcz49_0 : w47.cell? ⟨gb338, 0, none⟩ = some (.slice A0_0 l0_0.length c0_0) := (blk_cell BK338.out 0).trans rfl; have hcz49_1 : w47.cell? ⟨gb338, 1, none⟩ = some (.slice A0_1 l0_1.length c0_1) := (blk_cell BK338.out 1).trans rfl; have hfz49_0 := blk_frozen BK338.out 0; have hfz49_1 := blk_frozen BK338.out 1; obtain ⟨Ao50, co50, eo50⟩ := Kd.R_slice HO346.out; subst eo50) | ((with_reducible refine gate_dst (N := 37) rfl ?_); refine approx_Float.goesV (some 37) rfl rfl Tryd.func28 (by kernel_rfl) rfl #[.slice Ao48 t340.length co48, .slice Ao50 t341.length co50, .slice A0_1 l0_1.length c0_1] rfl rfl qL ?_; (with_reducible refine (approx_above.calls k _ _ t340 _ _ t341 _ _ l0_1 t348 t349 t350 _ ?side1 ?side2 ?side3 ?side4 ?side5 ?side6 A8.out).mono ?_); (case side1 => exact qC (Kd.R_reads' HO344.out).2.2); (case side2 => exact (Kd.R_reads' HO344.out).2.1); (case side3 => exact qC (Kd.R_reads' HO346.out).2.2); (case side4 => exact (Kd.R_reads' HO346.out).2.1); (case side5 => exact qC (Kd.C_below HR0_1.out (qG GE338.out))); (case side6 => exact HC0_1.out); rintro e w51 ⟨rfl, hb⟩; refine ⟨_, rfl, ?_⟩; have n0_ := Aside0.mk (Kd.R_below (qR HO344.out) hb); have n1_ := Aside0.mk (Kd.R_below (qR HO346.out) hb); have n2_ := Aside0.mk (blk_below (g := gb338) (o := .cells #[.slice A0_0 l0_0.length c0_0, .slice A0_1 l0_1.length c0_1] 25 (0, 0)) (qK BK338.out) hb); have n3_ := Aside0.mk (below_step (qG GE338.out) hb); clear HO344; clear HO346; clear BK338; clear HB; have HO344 := n0_; have HO346 := n1_; have BK338 := n2_; have HB := n3_; clear n0_ n1_ n2_ n3_; (try clear hb); (try clear hb2); (try clear hk); (try clear hi)) | ((with_reducible refine gate_callee (f := 29) rfl ?_); refine goesL_ (some 57) rfl rfl Tryd.func29 (by kernel_rfl) rfl #[.float .f64 (floatOfInt FloatKind.f64 t348), .int .i64 t349] rfl qL ?_; (with_reducible refine (math_Ldexp.calls (floatOfInt FloatKind.f64 t348) t349 t354 _ A42.out).mono ?_); rintro e w' ⟨rfl, ⟨nd, rfl⟩⟩; refine ⟨_, rfl, ?_⟩))
      go_ret2
      exact ⟨by first | rfl | (simp [errW_none, errW_some] <;> rfl) | (simp [*, errW_none, errW_some] <;> rfl), by repeat (first | (with_reducible first | exact HB.out | apply below_alloc | apply pw_below_drewN | apply below_drew1 | refine below_set ?_ GE338.out) | exact HB.out)⟩
   ·rw [if_neg c7] at H
    have c7b0 : decide (53 ≤ t347) = false := decide_eq_false c7
    clear c7
    obtain ⟨⟨t355, t356, t357⟩, A520, H⟩ := Option.bind_eq_some_iff.mp H
    try dsimp only at H
    have A52 := Aside0.mk A520
    clear A520
    by_cases c53 : t357 > 0
    ·rw [if_pos c53] at H
     have c53b0 : decide (0 < t357) = true := decide_eq_true c53
     clear c53
     obtain ⟨t358, A540, H⟩ := Option.bind_eq_some_iff.mp H
     try dsimp only at H
     have A54 := Aside0.mk A540
     clear A540
     simp only [Option.some.injEq, Prod.mk.injEq] at H
     obtain ⟨rfl, rfl⟩ := H
     go_enter Tryd.func10, Tryd.ntmps10
     go_wp2_with (first | ((with_reducible refine gate_dst (N := 1) rfl ?_); refine box_event ?hg (N := 1) ?hd (cs := #[.slice A0_0 l0_0.length c0_0, .slice A0_1 l0_1.length c0_1]) (t := 25) ?hr ?_; (case hd => rfl); (case hg => rfl); (case hr => first | (go_simp; done) | (go_simp; rfl)); intro gb338 hg w55 hbox hb; have n0_ := Aside0.mk (below_step qB hb); have n1_ := Aside0.mk (hbox); have n2_ := Aside0.mk ((qZ hg : w.heap.size ≤ gb338)); have n3_ := Aside0.mk ((qZ hg : w.heap.size ≤ gb338)); clear HB; have HB := n0_; have BK338 := n1_; have GW338 := n2_; have GE338 := n3_; clear n0_ n1_ n2_ n3_; clear hb hbox hg; have hcz56_0 : w55.cell? ⟨gb338, 0, none⟩ = some (.slice A0_0 l0_0.length c0_0) := (blk_cell BK338.out 0).trans rfl; have hcz56_1 : w55.cell? ⟨gb338, 1, none⟩ = some (.slice A0_1 l0_1.length c0_1) := (blk_cell BK338.out 1).trans rfl; have hfz56_0 := blk_frozen BK338.out 0; have hfz56_1 := blk_frozen BK338.out 1) | ((with_reducible refine gate_callee (f := 7) rfl ?_); refine goesL_ (some 13) rfl rfl Tryd.func7 (by kernel_rfl) rfl #[.agg #[.slice A0_0 l0_0.length c0_0, .slice A0_1 l0_1.length c0_1]] rfl qL ?_; (with_reducible refine (rat_Right.calls k _ _ l0_0 _ _ l0_1 true _ ?side1 ?side2 ?side3 ?side4 A2.out).mono ?_); (case side1 => exact qC (Kd.C_below HR0_0.out HB.out)); (case side2 => exact HC0_0.out); (case side3 => exact qC (Kd.C_below HR0_1.out HB.out)); (case side4 => exact HC0_1.out); rintro e w57 ⟨rfl, hb⟩; refine ⟨_, rfl, ?_⟩; have n0_ := Aside0.mk (blk_below (g := gb338) (o := .cells #[.slice A0_0 l0_0.length c0_0, .slice A0_1 l0_1.length c0_1] 25 (0, 0)) (qK BK338.out) hb); have n1_ := Aside0.mk (below_step (qG GE338.out) hb); clear BK338; clear HB; have BK338 := n0_; have HB := n1_; clear n0_ n1_; (try clear hb); (try clear hb2); (try clear hk); (try clear hi); have hcz58_0 : w57.cell? ⟨gb338, 0, none⟩ = some (.slice A0_0 l0_0.length c0_0) := (blk_cell BK338.out 0).trans rfl; have hcz58_1 : w57.cell? ⟨gb338, 1, none⟩ = some (.slice A0_1 l0_1.length c0_1) := (blk_cell BK338.out 1).trans rfl; have hfz58_0 := blk_frozen BK338.out 0; have hfz58_1 := blk_frozen BK338.out 1) | ((with_reducible refine gate_callee (f := 25) rfl ?_); refine goesL_ (some 20) rfl rfl Tryd.func25 (by kernel_rfl) rfl #[.slice A0_0 l0_0.length c0_0, .slice A0_1 l0_1.length c0_1] rfl qL ?_; (with_reducible refine (nat_Div.calls k _ _ l0_0 _ _ l0_1 t340 t341 t342 _ ?side1 ?side2 ?side3 ?side4 A4.out).mono ?_); (case side1 => exact qC (Kd.C_below HR0_0.out HB.out)); (case side2 => exact HC0_0.out); (case side3 => exact qC (Kd.C_below HR0_1.out HB.out)); (case side4 => exact HC0_1.out); rintro e w59 ⟨v343, v345, rfl, ho0, ho1, hb⟩; refine ⟨_, rfl, ?_⟩; have n0_ := Aside0.mk (Kd.R_lower ho0 (below_size (qG GE338.out))); have n1_ := Aside0.mk (Kd.R_lower ho1 (below_size (qG GE338.out))); have n2_ := Aside0.mk (blk_below (g := gb338) (o := .cells #[.slice A0_0 l0_0.length c0_0, .slice A0_1 l0_1.length c0_1] 25 (0, 0)) (qK BK338.out) hb); have n3_ := Aside0.mk (below_step (qG GE338.out) hb); clear BK338; clear HB; have HO344 := n0_; have HO346 := n1_; have BK338 := n2_; have HB := n3_; clear n0_ n1_ n2_ n3_; (try clear hb); (try clear hb2); (try clear hk); (try clear hi); (try clear ho0); (try clear ho1); obtain ⟨Ao60, co60, eo60⟩ := Kd.R_slice HO344.out; subst eo60) | ((with_reducible refine gate_callee (f := 26) rfl ?_); refine goesL_ (some 25) rfl rfl Tryd.func26 (by kernel_rfl) rfl #[.slice Ao60 t340.length co60] rfl qL ?_; (with_reducible refine (nat_Bits.calls _ _ t340 t347 _ ?side1 ?side2 A5.out).mono ?_); (case side1 => exact qC (Kd.R_reads' HO344.out).2.2); (case side2 => exact (Kd.R_reads' HO344.out).2.1); rintro e w' ⟨rfl, ⟨nd, rfl⟩⟩; refine ⟨_, rfl, ?_⟩; have hcz61_0 : w59.cell? ⟨gb338, 0, none⟩ = some (.slice A0_0 l0_0.length c0_0) := (blk_cell BK338.out 0).trans rfl; have hcz61_1 : w59.cell? ⟨gb338, 1, none⟩ = some (.slice A0_1 l0_1.length c0_1) := (blk_cell BK338.out 1).trans rfl; have hfz61_0 := blk_frozen BK338.out 0; have hfz61_1 := blk_frozen BK338.out 1; obtain ⟨Ao62, co62, eo62⟩ := Kd.R_slice HO346.out; subst eo62) | ((with_reducible refine gate_dst (N := 37) rfl ?_); refine approx_Float.goesV (some 37) rfl rfl Tryd.func27 (by kernel_rfl) rfl #[.slice Ao60 t340.length co60, .slice Ao62 t341.length co62, .slice A0_1 l0_1.length c0_1] rfl rfl qL ?_; (with_reducible refine (approx_below.calls k _ _ t340 (fun k_ => some k_ = (.slice Ao62 t341.length co62 : Value).ownBlock) _ _ t341 _ _ l0_1 t355 t356 t357 _ ?side1 ?side2 ?side3 ?side4 ?side5 A52.out).mono ?_); (case side1 => exact qC (Kd.R_reads' HO344.out).2.2); (case side2 => exact (Kd.R_reads' HO344.out).2.1); (case side3 => exact Kd.R_V (Kd.R_tight rfl (Kd.R_types (HO346.out) BK338.out (by decide)))); (case side4 => exact qC (Kd.C_below HR0_1.out (qG GE338.out))); (case side5 => exact HC0_1.out); rintro e w63 ⟨rfl, hb⟩; refine ⟨_, rfl, ?_⟩; have n0_ := Aside0.mk (Kd.R_below (qR HO344.out) hb); have n1_ := Aside0.mk (Kd.R_below (qR HO346.out) hb); have n2_ := Aside0.mk (blk_below (g := gb338) (o := .cells #[.slice A0_0 l0_0.length c0_0, .slice A0_1 l0_1.length c0_1] 25 (0, 0)) (qK BK338.out) hb); have n3_ := Aside0.mk (below_step (qG GE338.out) hb); clear HO344; clear HO346; clear BK338; clear HB; have HO344 := n0_; have HO346 := n1_; have BK338 := n2_; have HB := n3_; clear n0_ n1_ n2_ n3_; (try clear hb); (try clear hb2); (try clear hk); (try clear hi)) | ((with_reducible refine gate_callee (f := 29) rfl ?_); refine goesL_ (some 57) rfl rfl Tryd.func29 (by kernel_rfl) rfl #[.float .f64 (floatOfInt FloatKind.f64 (IntKind.u64.wrap (t355 + 1))), .int .i64 t356] rfl qL ?_; (with_reducible refine (math_Ldexp.calls (floatOfInt FloatKind.f64 (IntKind.u64.wrap (t355 + 1))) t356 t358 _ A54.out).mono ?_); rintro e w' ⟨rfl, ⟨nd, rfl⟩⟩; refine ⟨_, rfl, ?_⟩))
     go_ret2
     exact ⟨by first | rfl | (simp [errW_none, errW_some] <;> rfl) | (simp [*, errW_none, errW_some] <;> rfl), by repeat (first | (with_reducible first | exact HB.out | apply below_alloc | apply pw_below_drewN | apply below_drew1 | refine below_set ?_ GE338.out) | exact HB.out)⟩
    ·rw [if_neg c53] at H
     have c53b0 : decide (0 < t357) = false := decide_eq_false c53
     clear c53
     by_cases c64 : t357 = 0
     ·rw [if_pos c64] at H
      have c64b0 : (t357 == 0) = true := beq_iff_eq.mpr c64
      have c64b1 : (t357 != 0) = false := bne_eq_false_iff_eq.mpr c64
      clear c64
      by_cases c65 : (Int.tmod t355 2) = 1
      ·rw [if_pos c65] at H
       have c65b0 : ((Int.tmod t355 2) == 1) = true := beq_iff_eq.mpr c65
       have c65b1 : ((Int.tmod t355 2) != 1) = false := bne_eq_false_iff_eq.mpr c65
       clear c65
       obtain ⟨t359, A660, H⟩ := Option.bind_eq_some_iff.mp H
       try dsimp only at H
       have A66 := Aside0.mk A660
       clear A660
       simp only [Option.some.injEq, Prod.mk.injEq] at H
       obtain ⟨rfl, rfl⟩ := H
       go_enter Tryd.func10, Tryd.ntmps10
       go_wp2_with (first | ((with_reducible refine gate_dst (N := 1) rfl ?_); refine box_event ?hg (N := 1) ?hd (cs := #[.slice A0_0 l0_0.length c0_0, .slice A0_1 l0_1.length c0_1]) (t := 25) ?hr ?_; (case hd => rfl); (case hg => rfl); (case hr => first | (go_simp; done) | (go_simp; rfl)); intro gb338 hg w67 hbox hb; have n0_ := Aside0.mk (below_step qB hb); have n1_ := Aside0.mk (hbox); have n2_ := Aside0.mk ((qZ hg : w.heap.size ≤ gb338)); have n3_ := Aside0.mk ((qZ hg : w.heap.size ≤ gb338)); clear HB; have HB := n0_; have BK338 := n1_; have GW338 := n2_; have GE338 := n3_; clear n0_ n1_ n2_ n3_; clear hb hbox hg; have hcz68_0 : w67.cell? ⟨gb338, 0, none⟩ = some (.slice A0_0 l0_0.length c0_0) := (blk_cell BK338.out 0).trans rfl; have hcz68_1 : w67.cell? ⟨gb338, 1, none⟩ = some (.slice A0_1 l0_1.length c0_1) := (blk_cell BK338.out 1).trans rfl; have hfz68_0 := blk_frozen BK338.out 0; have hfz68_1 := blk_frozen BK338.out 1) | ((with_reducible refine gate_callee (f := 7) rfl ?_); refine goesL_ (some 13) rfl rfl Tryd.func7 (by kernel_rfl) rfl #[.agg #[.slice A0_0 l0_0.length c0_0, .slice A0_1 l0_1.length c0_1]] rfl qL ?_; (with_reducible refine (rat_Right.calls k _ _ l0_0 _ _ l0_1 true _ ?side1 ?side2 ?side3 ?side4 A2.out).mono ?_); (case side1 => exact qC (Kd.C_below HR0_0.out HB.out)); (case side2 => exact HC0_0.out); (case side3 => exact qC (Kd.C_below HR0_1.out HB.out)); (case side4 => exact HC0_1.out); rintro e w69 ⟨rfl, hb⟩; refine ⟨_, rfl, ?_⟩; have n0_ := Aside0.mk (blk_below (g := gb338) (o := .cells #[.slice A0_0 l0_0.length c0_0, .slice A0_1 l0_1.length c0_1] 25 (0, 0)) (qK BK338.out) hb); have n1_ := Aside0.mk (below_step (qG GE338.out) hb); clear BK338; clear HB; have BK338 := n0_; have HB := n1_; clear n0_ n1_; (try clear hb); (try clear hb2); (try clear hk); (try clear hi); have hcz70_0 : w69.cell? ⟨gb338, 0, none⟩ = some (.slice A0_0 l0_0.length c0_0) := (blk_cell BK338.out 0).trans rfl; have hcz70_1 : w69.cell? ⟨gb338, 1, none⟩ = some (.slice A0_1 l0_1.length c0_1) := (blk_cell BK338.out 1).trans rfl; have hfz70_0 := blk_frozen BK338.out 0; have hfz70_1 := blk_frozen BK338.out 1) | ((with_reducible refine gate_callee (f := 25) rfl ?_); refine goesL_ (some 20) rfl rfl Tryd.func25 (by kernel_rfl) rfl #[.slice A0_0 l0_0.length c0_0, .slice A0_1 l0_1.length c0_1] rfl qL ?_; (with_reducible refine (nat_Div.calls k _ _ l0_0 _ _ l0_1 t340 t341 t342 _ ?side1 ?side2 ?side3 ?side4 A4.out).mono ?_); (case side1 => exact qC (Kd.C_below HR0_0.out HB.out)); (case side2 => exact HC0_0.out); (case side3 => exact qC (Kd.C_below HR0_1.out HB.out)); (case side4 => exact HC0_1.out); rintro e w71 ⟨v343, v345, rfl, ho0, ho1, hb⟩; refine ⟨_, rfl, ?_⟩; have n0_ := Aside0.mk (Kd.R_lower ho0 (below_size (qG GE338.out))); have n1_ := Aside0.mk (Kd.R_lower ho1 (below_size (qG GE338.out))); have n2_ := Aside0.mk (blk_below (g := gb338) (o := .cells #[.slice A0_0 l0_0.length c0_0, .slice A0_1 l0_1.length c0_1] 25 (0, 0)) (qK BK338.out) hb); have n3_ := Aside0.mk (below_step (qG GE338.out) hb); clear BK338; clear HB; have HO344 := n0_; have HO346 := n1_; have BK338 := n2_; have HB := n3_; clear n0_ n1_ n2_ n3_; (try clear hb); (try clear hb2); (try clear hk); (try clear hi); (try clear ho0); (try clear ho1); obtain ⟨Ao72, co72, eo72⟩ := Kd.R_slice HO344.out; subst eo72) | ((with_reducible refine gate_callee (f := 26) rfl ?_); refine goesL_ (some 25) rfl rfl Tryd.func26 (by kernel_rfl) rfl #[.slice Ao72 t340.length co72] rfl qL ?_; (with_reducible refine (nat_Bits.calls _ _ t340 t347 _ ?side1 ?side2 A5.out).mono ?_); (case side1 => exact qC (Kd.R_reads' HO344.out).2.2); (case side2 => exact (Kd.R_reads' HO344.out).2.1); rintro e w' ⟨rfl, ⟨nd, rfl⟩⟩; refine ⟨_, rfl, ?_⟩; have hcz73_0 : w71.cell? ⟨gb338, 0, none⟩ = some (.slice A0_0 l0_0.length c0_0) := (blk_cell BK338.out 0).trans rfl; have hcz73_1 : w71.cell? ⟨gb338, 1, none⟩ = some (.slice A0_1 l0_1.length c0_1) := (blk_cell BK338.out 1).trans rfl; have hfz73_0 := blk_frozen BK338.out 0; have hfz73_1 := blk_frozen BK338.out 1; obtain ⟨Ao74, co74, eo74⟩ := Kd.R_slice HO346.out; subst eo74) | ((with_reducible refine gate_dst (N := 37) rfl ?_); refine approx_Float.goesV (some 37) rfl rfl Tryd.func27 (by kernel_rfl) rfl #[.slice Ao72 t340.length co72, .slice Ao74 t341.length co74, .slice A0_1 l0_1.length c0_1] rfl rfl qL ?_; (with_reducible refine (approx_below.calls k _ _ t340 (fun k_ => some k_ = (.slice Ao74 t341.length co74 : Value).ownBlock) _ _ t341 _ _ l0_1 t355 t356 t357 _ ?side1 ?side2 ?side3 ?side4 ?side5 A52.out).mono ?_); (case side1 => exact qC (Kd.R_reads' HO344.out).2.2); (case side2 => exact (Kd.R_reads' HO344.out).2.1); (case side3 => exact Kd.R_V (Kd.R_tight rfl (Kd.R_types (HO346.out) BK338.out (by decide)))); (case side4 => exact qC (Kd.C_below HR0_1.out (qG GE338.out))); (case side5 => exact HC0_1.out); rintro e w75 ⟨rfl, hb⟩; refine ⟨_, rfl, ?_⟩; have n0_ := Aside0.mk (Kd.R_below (qR HO344.out) hb); have n1_ := Aside0.mk (Kd.R_below (qR HO346.out) hb); have n2_ := Aside0.mk (blk_below (g := gb338) (o := .cells #[.slice A0_0 l0_0.length c0_0, .slice A0_1 l0_1.length c0_1] 25 (0, 0)) (qK BK338.out) hb); have n3_ := Aside0.mk (below_step (qG GE338.out) hb); clear HO344; clear HO346; clear BK338; clear HB; have HO344 := n0_; have HO346 := n1_; have BK338 := n2_; have HB := n3_; clear n0_ n1_ n2_ n3_; (try clear hb); (try clear hb2); (try clear hk); (try clear hi)) | ((with_reducible refine gate_callee (f := 29) rfl ?_); refine goesL_ (some 57) rfl rfl Tryd.func29 (by kernel_rfl) rfl #[.float .f64 (floatOfInt FloatKind.f64 (IntKind.u64.wrap (t355 + 1))), .int .i64 t356] rfl qL ?_; (with_reducible refine (math_Ldexp.calls (floatOfInt FloatKind.f64 (IntKind.u64.wrap (t355 + 1))) t356 t359 _ A66.out).mono ?_); rintro e w' ⟨rfl, ⟨nd, rfl⟩⟩; refine ⟨_, rfl, ?_⟩))
       go_ret2
       exact ⟨by first | rfl | (simp [errW_none, errW_some] <;> rfl) | (simp [*, errW_none, errW_some] <;> rfl), by repeat (first | (with_reducible first | exact HB.out | apply below_alloc | apply pw_below_drewN | apply below_drew1 | refine below_set ?_ GE338.out) | exact HB.out)⟩
      ·rw [if_neg c65] at H
       have c65b0 : ((Int.tmod t355 2) == 1) = false := beq_eq_false_iff_ne.mpr c65
       have c65b1 : ((Int.tmod t355 2) != 1) = true := bne_iff_ne.mpr c65
       obtain ⟨t360, A760, H⟩ := Option.bind_eq_some_iff.mp H
       try dsimp only at H
       have A76 := Aside0.mk A760
       clear A760
       simp only [Option.some.injEq, Prod.mk.injEq] at H
       obtain ⟨rfl, rfl⟩ := H
       go_enter Tryd.func10, Tryd.ntmps10
       go_wp2_with (first | ((with_reducible refine gate_dst (N := 1) rfl ?_); refine box_event ?hg (N := 1) ?hd (cs := #[.slice A0_0 l0_0.length c0_0, .slice A0_1 l0_1.length c0_1]) (t := 25) ?hr ?_; (case hd => rfl); (case hg => rfl); (case hr => first | (go_simp; done) | (go_simp; rfl)); intro gb338 hg w77 hbox hb; have n0_ := Aside0.mk (below_step qB hb); have n1_ := Aside0.mk (hbox); have n2_ := Aside0.mk ((qZ hg : w.heap.size ≤ gb338)); have n3_ := Aside0.mk ((qZ hg : w.heap.size ≤ gb338)); clear HB; have HB := n0_; have BK338 := n1_; have GW338 := n2_; have GE338 := n3_; clear n0_ n1_ n2_ n3_; clear hb hbox hg; have hcz78_0 : w77.cell? ⟨gb338, 0, none⟩ = some (.slice A0_0 l0_0.length c0_0) := (blk_cell BK338.out 0).trans rfl; have hcz78_1 : w77.cell? ⟨gb338, 1, none⟩ = some (.slice A0_1 l0_1.length c0_1) := (blk_cell BK338.out 1).trans rfl; have hfz78_0 := blk_frozen BK338.out 0; have hfz78_1 := blk_frozen BK338.out 1) | ((with_reducible refine gate_callee (f := 7) rfl ?_); refine goesL_ (some 13) rfl rfl Tryd.func7 (by kernel_rfl) rfl #[.agg #[.slice A0_0 l0_0.length c0_0, .slice A0_1 l0_1.length c0_1]] rfl qL ?_; (with_reducible refine (rat_Right.calls k _ _ l0_0 _ _ l0_1 true _ ?side1 ?side2 ?side3 ?side4 A2.out).mono ?_); (case side1 => exact qC (Kd.C_below HR0_0.out HB.out)); (case side2 => exact HC0_0.out); (case side3 => exact qC (Kd.C_below HR0_1.out HB.out)); (case side4 => exact HC0_1.out); rintro e w79 ⟨rfl, hb⟩; refine ⟨_, rfl, ?_⟩; have n0_ := Aside0.mk (blk_below (g := gb338) (o := .cells #[.slice A0_0 l0_0.length c0_0, .slice A0_1 l0_1.length c0_1] 25 (0, 0)) (qK BK338.out) hb); have n1_ := Aside0.mk (below_step (qG GE338.out) hb); clear BK338; clear HB; have BK338 := n0_; have HB := n1_; clear n0_ n1_; (try clear hb); (try clear hb2); (try clear hk); (try clear hi); have hcz80_0 : w79.cell? ⟨gb338, 0, none⟩ = some (.slice A0_0 l0_0.length c0_0) := (blk_cell BK338.out 0).trans rfl; have hcz80_1 : w79.cell? ⟨gb338, 1, none⟩ = some (.slice A0_1 l0_1.length c0_1) := (blk_cell BK338.out 1).trans rfl; have hfz80_0 := blk_frozen BK338.out 0; have hfz80_1 := blk_frozen BK338.out 1) | ((with_reducible refine gate_callee (f := 25) rfl ?_); refine goesL_ (some 20) rfl rfl Tryd.func25 (by kernel_rfl) rfl #[.slice A0_0 l0_0.length c0_0, .slice A0_1 l0_1.length c0_1] rfl qL ?_; (with_reducible refine (nat_Div.calls k _ _ l0_0 _ _ l0_1 t340 t341 t342 _ ?side1 ?side2 ?side3 ?side4 A4.out).mono ?_); (case side1 => exact qC (Kd.C_below HR0_0.out HB.out)); (case side2 => exact HC0_0.out); (case side3 => exact qC (Kd.C_below HR0_1.out HB.out)); (case side4 => exact HC0_1.out); rintro e w81 ⟨v343, v345, rfl, ho0, ho1, hb⟩; refine ⟨_, rfl, ?_⟩; have n0_ := Aside0.mk (Kd.R_lower ho0 (below_size (qG GE338.out))); have n1_ := Aside0.mk (Kd.R_lower ho1 (below_size (qG GE338.out))); have n2_ := Aside0.mk (blk_below (g := gb338) (o := .cells #[.slice A0_0 l0_0.length c0_0, .slice A0_1 l0_1.length c0_1] 25 (0, 0)) (qK BK338.out) hb); have n3_ := Aside0.mk (below_step (qG GE338.out) hb); clear BK338; clear HB; have HO344 := n0_; have HO346 := n1_; have BK338 := n2_; have HB := n3_; clear n0_ n1_ n2_ n3_; (try clear hb); (try clear hb2); (try clear hk); (try clear hi); (try clear ho0); (try clear ho1); obtain ⟨Ao82, co82, eo82⟩ := Kd.R_slice HO344.out; subst eo82) | ((with_reducible refine gate_callee (f := 26) rfl ?_); refine goesL_ (some 25) rfl rfl Tryd.func26 (by kernel_rfl) rfl #[.slice Ao82 t340.length co82] rfl qL ?_; (with_reducible refine (nat_Bits.calls _ _ t340 t347 _ ?side1 ?side2 A5.out).mono ?_); (case side1 => exact qC (Kd.R_reads' HO344.out).2.2); (case side2 => exact (Kd.R_reads' HO344.out).2.1); rintro e w' ⟨rfl, ⟨nd, rfl⟩⟩; refine ⟨_, rfl, ?_⟩; have hcz83_0 : w81.cell? ⟨gb338, 0, none⟩ = some (.slice A0_0 l0_0.length c0_0) := (blk_cell BK338.out 0).trans rfl; have hcz83_1 : w81.cell? ⟨gb338, 1, none⟩ = some (.slice A0_1 l0_1.length c0_1) := (blk_cell BK338.out 1).trans rfl; have hfz83_0 := blk_frozen BK338.out 0; have hfz83_1 := blk_frozen BK338.out 1; obtain ⟨Ao84, co84, eo84⟩ := Kd.R_slice HO346.out; subst eo84) | ((with_reducible refine gate_dst (N := 37) rfl ?_); refine approx_Float.goesV (some 37) rfl rfl Tryd.func27 (by kernel_rfl) rfl #[.slice Ao82 t340.length co82, .slice Ao84 t341.length co84, .slice A0_1 l0_1.length c0_1] rfl rfl qL ?_; (with_reducible refine (approx_below.calls k _ _ t340 (fun k_ => some k_ = (.slice Ao84 t341.length co84 : Value).ownBlock) _ _ t341 _ _ l0_1 t355 t356 t357 _ ?side1 ?side2 ?side3 ?side4 ?side5 A52.out).mono ?_); (case side1 => exact qC (Kd.R_reads' HO344.out).2.2); (case side2 => exact (Kd.R_reads' HO344.out).2.1); (case side3 => exact Kd.R_V (Kd.R_tight rfl (Kd.R_types (HO346.out) BK338.out (by decide)))); (case side4 => exact qC (Kd.C_below HR0_1.out (qG GE338.out))); (case side5 => exact HC0_1.out); rintro e w85 ⟨rfl, hb⟩; refine ⟨_, rfl, ?_⟩; have n0_ := Aside0.mk (Kd.R_below (qR HO344.out) hb); have n1_ := Aside0.mk (Kd.R_below (qR HO346.out) hb); have n2_ := Aside0.mk (blk_below (g := gb338) (o := .cells #[.slice A0_0 l0_0.length c0_0, .slice A0_1 l0_1.length c0_1] 25 (0, 0)) (qK BK338.out) hb); have n3_ := Aside0.mk (below_step (qG GE338.out) hb); clear HO344; clear HO346; clear BK338; clear HB; have HO344 := n0_; have HO346 := n1_; have BK338 := n2_; have HB := n3_; clear n0_ n1_ n2_ n3_; (try clear hb); (try clear hb2); (try clear hk); (try clear hi)) | ((with_reducible refine gate_callee (f := 29) rfl ?_); refine goesL_ (some 57) rfl rfl Tryd.func29 (by kernel_rfl) rfl #[.float .f64 (floatOfInt FloatKind.f64 t355), .int .i64 t356] rfl qL ?_; (with_reducible refine (math_Ldexp.calls (floatOfInt FloatKind.f64 t355) t356 t360 _ A76.out).mono ?_); rintro e w' ⟨rfl, ⟨nd, rfl⟩⟩; refine ⟨_, rfl, ?_⟩))
       go_ret2
       exact ⟨by first | rfl | (simp [errW_none, errW_some] <;> rfl) | (simp [*, errW_none, errW_some] <;> rfl), by repeat (first | (with_reducible first | exact HB.out | apply below_alloc | apply pw_below_drewN | apply below_drew1 | refine below_set ?_ GE338.out) | exact HB.out)⟩
     ·rw [if_neg c64] at H
      have c64b0 : (t357 == 0) = false := beq_eq_false_iff_ne.mpr c64
      have c64b1 : (t357 != 0) = true := bne_iff_ne.mpr c64
      obtain ⟨t361, A860, H⟩ := Option.bind_eq_some_iff.mp H
      try dsimp only at H
      have A86 := Aside0.mk A860
      clear A860
      simp only [Option.some.injEq, Prod.mk.injEq] at H
      obtain ⟨rfl, rfl⟩ := H
      go_enter Tryd.func10, Tryd.ntmps10
      go_wp2_with (first | ((with_reducible refine gate_dst (N := 1) rfl ?_); refine box_event ?hg (N := 1) ?hd (cs := #[.slice A0_0 l0_0.length c0_0, .slice A0_1 l0_1.length c0_1]) (t := 25) ?hr ?_; (case hd => rfl); (case hg => rfl); (case hr => first | (go_simp; done) | (go_simp; rfl)); intro gb338 hg w87 hbox hb; have n0_ := Aside0.mk (below_step qB hb); have n1_ := Aside0.mk (hbox); have n2_ := Aside0.mk ((qZ hg : w.heap.size ≤ gb338)); have n3_ := Aside0.mk ((qZ hg : w.heap.size ≤ gb338)); clear HB; have HB := n0_; have BK338 := n1_; have GW338 := n2_; have GE338 := n3_; clear n0_ n1_ n2_ n3_; clear hb hbox hg; have hcz88_0 : w87.cell? ⟨gb338, 0, none⟩ = some (.slice A0_0 l0_0.length c0_0) := (blk_cell BK338.out 0).trans rfl; have hcz88_1 : w87.cell? ⟨gb338, 1, none⟩ = some (.slice A0_1 l0_1.length c0_1) := (blk_cell BK338.out 1).trans rfl; have hfz88_0 := blk_frozen BK338.out 0; have hfz88_1 := blk_frozen BK338.out 1) | ((with_reducible refine gate_callee (f := 7) rfl ?_); refine goesL_ (some 13) rfl rfl Tryd.func7 (by kernel_rfl) rfl #[.agg #[.slice A0_0 l0_0.length c0_0, .slice A0_1 l0_1.length c0_1]] rfl qL ?_; (with_reducible refine (rat_Right.calls k _ _ l0_0 _ _ l0_1 true _ ?side1 ?side2 ?side3 ?side4 A2.out).mono ?_); (case side1 => exact qC (Kd.C_below HR0_0.out HB.out)); (case side2 => exact HC0_0.out); (case side3 => exact qC (Kd.C_below HR0_1.out HB.out)); (case side4 => exact HC0_1.out); rintro e w89 ⟨rfl, hb⟩; refine ⟨_, rfl, ?_⟩; have n0_ := Aside0.mk (blk_below (g := gb338) (o := .cells #[.slice A0_0 l0_0.length c0_0, .slice A0_1 l0_1.length c0_1] 25 (0, 0)) (qK BK338.out) hb); have n1_ := Aside0.mk (below_step (qG GE338.out) hb); clear BK338; clear HB; have BK338 := n0_; have HB := n1_; clear n0_ n1_; (try clear hb); (try clear hb2); (try clear hk); (try clear hi); have hcz90_0 : w89.cell? ⟨gb338, 0, none⟩ = some (.slice A0_0 l0_0.length c0_0) := (blk_cell BK338.out 0).trans rfl; have hcz90_1 : w89.cell? ⟨gb338, 1, none⟩ = some (.slice A0_1 l0_1.length c0_1) := (blk_cell BK338.out 1).trans rfl; have hfz90_0 := blk_frozen BK338.out 0; have hfz90_1 := blk_frozen BK338.out 1) | ((with_reducible refine gate_callee (f := 25) rfl ?_); refine goesL_ (some 20) rfl rfl Tryd.func25 (by kernel_rfl) rfl #[.slice A0_0 l0_0.length c0_0, .slice A0_1 l0_1.length c0_1] rfl qL ?_; (with_reducible refine (nat_Div.calls k _ _ l0_0 _ _ l0_1 t340 t341 t342 _ ?side1 ?side2 ?side3 ?side4 A4.out).mono ?_); (case side1 => exact qC (Kd.C_below HR0_0.out HB.out)); (case side2 => exact HC0_0.out); (case side3 => exact qC (Kd.C_below HR0_1.out HB.out)); (case side4 => exact HC0_1.out); rintro e w91 ⟨v343, v345, rfl, ho0, ho1, hb⟩; refine ⟨_, rfl, ?_⟩; have n0_ := Aside0.mk (Kd.R_lower ho0 (below_size (qG GE338.out))); have n1_ := Aside0.mk (Kd.R_lower ho1 (below_size (qG GE338.out))); have n2_ := Aside0.mk (blk_below (g := gb338) (o := .cells #[.slice A0_0 l0_0.length c0_0, .slice A0_1 l0_1.length c0_1] 25 (0, 0)) (qK BK338.out) hb); have n3_ := Aside0.mk (below_step (qG GE338.out) hb); clear BK338; clear HB; have HO344 := n0_; have HO346 := n1_; have BK338 := n2_; have HB := n3_; clear n0_ n1_ n2_ n3_; (try clear hb); (try clear hb2); (try clear hk); (try clear hi); (try clear ho0); (try clear ho1); obtain ⟨Ao92, co92, eo92⟩ := Kd.R_slice HO344.out; subst eo92) | ((with_reducible refine gate_callee (f := 26) rfl ?_); refine goesL_ (some 25) rfl rfl Tryd.func26 (by kernel_rfl) rfl #[.slice Ao92 t340.length co92] rfl qL ?_; (with_reducible refine (nat_Bits.calls _ _ t340 t347 _ ?side1 ?side2 A5.out).mono ?_); (case side1 => exact qC (Kd.R_reads' HO344.out).2.2); (case side2 => exact (Kd.R_reads' HO344.out).2.1); rintro e w' ⟨rfl, ⟨nd, rfl⟩⟩; refine ⟨_, rfl, ?_⟩; have hcz93_0 : w91.cell? ⟨gb338, 0, none⟩ = some (.slice A0_0 l0_0.length c0_0) := (blk_cell BK338.out 0).trans rfl; have hcz93_1 : w91.cell? ⟨gb338, 1, none⟩ = some (.slice A0_1 l0_1.length c0_1) := (blk_cell BK338.out 1).trans rfl; have hfz93_0 := blk_frozen BK338.out 0; have hfz93_1 := blk_frozen BK338.out 1; obtain ⟨Ao94, co94, eo94⟩ := Kd.R_slice HO346.out; subst eo94) | ((with_reducible refine gate_dst (N := 37) rfl ?_); refine approx_Float.goesV (some 37) rfl rfl Tryd.func27 (by kernel_rfl) rfl #[.slice Ao92 t340.length co92, .slice Ao94 t341.length co94, .slice A0_1 l0_1.length c0_1] rfl rfl qL ?_; (with_reducible refine (approx_below.calls k _ _ t340 (fun k_ => some k_ = (.slice Ao94 t341.length co94 : Value).ownBlock) _ _ t341 _ _ l0_1 t355 t356 t357 _ ?side1 ?side2 ?side3 ?side4 ?side5 A52.out).mono ?_); (case side1 => exact qC (Kd.R_reads' HO344.out).2.2); (case side2 => exact (Kd.R_reads' HO344.out).2.1); (case side3 => exact Kd.R_V (Kd.R_tight rfl (Kd.R_types (HO346.out) BK338.out (by decide)))); (case side4 => exact qC (Kd.C_below HR0_1.out (qG GE338.out))); (case side5 => exact HC0_1.out); rintro e w95 ⟨rfl, hb⟩; refine ⟨_, rfl, ?_⟩; have n0_ := Aside0.mk (Kd.R_below (qR HO344.out) hb); have n1_ := Aside0.mk (Kd.R_below (qR HO346.out) hb); have n2_ := Aside0.mk (blk_below (g := gb338) (o := .cells #[.slice A0_0 l0_0.length c0_0, .slice A0_1 l0_1.length c0_1] 25 (0, 0)) (qK BK338.out) hb); have n3_ := Aside0.mk (below_step (qG GE338.out) hb); clear HO344; clear HO346; clear BK338; clear HB; have HO344 := n0_; have HO346 := n1_; have BK338 := n2_; have HB := n3_; clear n0_ n1_ n2_ n3_; (try clear hb); (try clear hb2); (try clear hk); (try clear hi)) | ((with_reducible refine gate_callee (f := 29) rfl ?_); refine goesL_ (some 57) rfl rfl Tryd.func29 (by kernel_rfl) rfl #[.float .f64 (floatOfInt FloatKind.f64 t355), .int .i64 t356] rfl qL ?_; (with_reducible refine (math_Ldexp.calls (floatOfInt FloatKind.f64 t355) t356 t361 _ A86.out).mono ?_); rintro e w' ⟨rfl, ⟨nd, rfl⟩⟩; refine ⟨_, rfl, ?_⟩))
      go_ret2
      exact ⟨by first | rfl | (simp [errW_none, errW_some] <;> rfl) | (simp [*, errW_none, errW_some] <;> rfl), by repeat (first | (with_reducible first | exact HB.out | apply below_alloc | apply pw_below_drewN | apply below_drew1 | refine below_set ?_ GE338.out) | exact HB.out)⟩
 ·replace c3 := Bool.eq_false_iff.mpr c3
  subst c3
  have H1 : (none) = some (r1, r2) := by rw [if_neg (show ¬ (false = true) by decide)] at H; exact H
  clear H
  have H := H1
  clear H1
  exact absurd H (by simp)

/-! ### rat_Whole: function 32 -/
def rat_Whole.f (k : Nat) (a0 : Int) : Option (List Int × List Int) := (nat_Of.f k a0).bind fun t363 => ((rat_one.f k).bind fun t366 => (some (t363, t366)))
theorem rat_Whole.mono : ∀ a0 k, LeO (rat_Whole.f k a0) (rat_Whole.f (k + 1) a0) := by
 intro a0 k
 unfold rat_Whole.f
 repeat' first
   | (with_reducible exact nat_Of.mono _ _)
   | (with_reducible exact rat_one.mono _)
   | (with_reducible exact LeO.refl _)
   | (with_reducible exact LeO.none _)
   | (with_reducible refine LeO.ite ?_ ?_)
   | (with_reducible refine LeO.bind ?_ (fun _ => ?_))
   | exact nat_Of.mono _ _
   | exact rat_one.mono _
   | exact LeO.none _
   | refine LeO.ite ?_ ?_
   | refine LeO.bind ?_ (fun _ => ?_)
set_option maxHeartbeats 8000000 in
set_option maxRecDepth 100000 in
theorem rat_Whole.calls (k : Nat) (a0 : Int) (r1 : List Int) (r2 : List Int) (w : World) (h : rat_Whole.f k a0 = some (r1, r2)) :
  Calls Tryd.prog 32 #[.int .u64 a0] w fun e w' => ∃ v0_ v1_ : Value, e = .returned (.agg #[v0_, v1_]) ∧ Kd.R (Kd.int .u32) 47 w' w.heap.size (fun k_ => some k_ ≠ (v1_ : Value).ownBlock) v0_ r1 ∧ Kd.R (Kd.int .u32) 47 w' w.heap.size (fun k_ => some k_ ≠ (v0_ : Value).ownBlock) v1_ r2 ∧ Below w.heap.size w w' := by
 have hu25 := Tryd.underlying25
 have HB := Aside0.mk (Below.refl w.heap.size w)
 have H : ((nat_Of.f k a0).bind fun t363 => ((rat_one.f k).bind fun t366 => (some (t363, t366)))) = some (r1, r2) := h
 clear h
 obtain ⟨t363, A20, H⟩ := Option.bind_eq_some_iff.mp H
 try dsimp only at H
 have A2 := Aside0.mk A20
 clear A20
 obtain ⟨t366, A30, H⟩ := Option.bind_eq_some_iff.mp H
 try dsimp only at H
 have A3 := Aside0.mk A30
 clear A30
 simp only [Option.some.injEq, Prod.mk.injEq] at H
 obtain ⟨rfl, rfl⟩ := H
 go_enter Tryd.func32, Tryd.ntmps32
 go_wp2_with (first | ((with_reducible refine gate_dst (N := 2) rfl ?_); refine box_event ?hg (N := 2) ?hd (cs := #[.slice none 0 0, .slice none 0 0]) (t := 25) ?hr ?_; (case hd => rfl); (case hg => rfl); (case hr => first | (go_simp; done) | (go_simp; rfl)); intro gb362 hg w4 hbox hb; have n0_ := Aside0.mk (below_step qB hb); have n1_ := Aside0.mk (hbox); have n2_ := Aside0.mk ((qZ hg : w.heap.size ≤ gb362)); have n3_ := Aside0.mk ((qZ hg : w.heap.size ≤ gb362)); clear HB; have HB := n0_; have BK362 := n1_; have GW362 := n2_; have GE362 := n3_; clear n0_ n1_ n2_ n3_; clear hb hbox hg) | ((with_reducible refine gate_callee (f := 34) rfl ?_); refine goesL_ (some 4) rfl rfl Tryd.func34 (by kernel_rfl) rfl #[.int .u64 a0] rfl qL ?_; (with_reducible refine (nat_Of.calls k a0 t363 _ A2.out).mono ?_); rintro e w5 ⟨v364, rfl, ho0, hb⟩; refine ⟨_, rfl, ?_⟩; have n0_ := Aside0.mk (Kd.R_lower ho0 (below_size (qG GE362.out))); have n1_ := Aside0.mk (blk_below (g := gb362) (o := .cells #[.slice none 0 0, .slice none 0 0] 25 (0, 0)) (qK BK362.out) hb); have n2_ := Aside0.mk (below_step (qG GE362.out) hb); clear BK362; clear HB; have HO365 := n0_; have BK362 := n1_; have HB := n2_; clear n0_ n1_ n2_; (try clear hb); (try clear hb2); (try clear hk); (try clear hi); (try clear ho0)) | ((with_reducible refine gate_callee (f := 20) rfl ?_); refine goesL_ (some 5) rfl rfl Tryd.func20 (by kernel_rfl) rfl #[] rfl qL ?_; (with_reducible refine (rat_one.calls k  t366 _ A3.out).mono ?_); rintro e w6 ⟨v367, rfl, ho0, hb⟩; refine ⟨_, rfl, ?_⟩; have n0_ := Aside0.mk (Kd.R_elder' (qR HO365.out) (Kd.R_base ho0) hb); have n1_ := Aside0.mk (Kd.R_lower (Kd.R_new' ho0 (Kd.R_lt (qR HO365.out))) (below_size (qG GE362.out))); have n2_ := Aside0.mk (blk_below (g := gb362) (o := .cells #[.slice none 0 0, .slice none 0 0] 25 (0, 0)) (qK BK362.out) hb); have n3_ := Aside0.mk (below_step (qG GE362.out) hb); clear HO365; clear BK362; clear HB; have HO365 := n0_; have HO368 := n1_; have BK362 := n2_; have HB := n3_; clear n0_ n1_ n2_ n3_; (try clear hb); (try clear hb2); (try clear hk); (try clear hi); (try clear ho0); obtain ⟨Ao7, co7, eo7⟩ := Kd.R_slice HO368.out; subst eo7; obtain ⟨Ao8, co8, eo8⟩ := Kd.R_slice HO365.out; subst eo8; have hcz9_0 : w6.cell? ⟨gb362, 0, none⟩ = some (.slice none 0 0) := (blk_cell BK362.out 0).trans rfl; have hcz9_1 : w6.cell? ⟨gb362, 1, none⟩ = some (.slice none 0 0) := (blk_cell BK362.out 1).trans rfl; have hfz9_0 := blk_frozen BK362.out 0; have hfz9_1 := blk_frozen BK362.out 1))
 refine bodyPost_ret (results_cell_row rfl _ _ gb362 25 #[.slice Ao8 t363.length co8, .slice Ao7 t366.length co7] (0, 0) _ rfl (by (with_reducible repeat (first | refine blk_drewN ?_ _ | refine blk_drew ?_ | refine blk_alloc ?_ _)); refine blk_put (cs := #[.slice Ao8 t363.length co8, .slice none 0 0]) ?_ 1 _ rfl; (with_reducible repeat (first | refine blk_drewN ?_ _ | refine blk_drew ?_ | refine blk_alloc ?_ _)); refine blk_put (cs := #[.slice none 0 0, .slice none 0 0]) ?_ 0 _ rfl; (with_reducible repeat (first | refine blk_drewN ?_ _ | refine blk_drew ?_ | refine blk_alloc ?_ _)); exact BK362.out) Tryd.underlying25 rfl (by kernel_rfl)) rfl ?_
 exact ⟨_, _, by first | rfl | (simp [errW_none, errW_some] <;> rfl) | (simp [*, errW_none, errW_some] <;> rfl), by (with_reducible repeat (first | apply Kd.R_alloc | apply Kd.R_drewN | apply Kd.R_drew)); exact Kd.R_mono (Kd.R_far (p := ⟨gb362, 1, none⟩) (Kd.R_far (p := ⟨gb362, 0, none⟩) (Kd.R_types HO365.out BK362.out (by decide)) (fun _ hk => hk.2) (.slice Ao8 t363.length co8)) (fun _ hk => hk.2) (.slice Ao7 t366.length co7)) (fun _ hk => hk.1.2), by (with_reducible repeat (first | apply Kd.R_alloc | apply Kd.R_drewN | apply Kd.R_drew)); exact Kd.R_mono (Kd.R_far (p := ⟨gb362, 1, none⟩) (Kd.R_far (p := ⟨gb362, 0, none⟩) (Kd.R_types HO368.out BK362.out (by decide)) (fun _ hk => hk.2) (.slice Ao8 t363.length co8)) (fun _ hk => hk.2) (.slice Ao7 t366.length co7)) (fun _ hk => hk.1.2), by repeat (first | (with_reducible first | exact HB.out | apply below_alloc | apply pw_below_drewN | apply below_drew1 | refine below_set ?_ GE362.out) | exact HB.out)⟩

-- NOT PRINTED: function 59 (math_archFrexp)

/-! ### math_frexp: function 60 -/
def math_frexp.f (a0 : Nat) : Option (Nat × Int) := if (FloatKind.f64.format.order a0 0 == some Ordering.eq) = true then (none) else ((math_IsInf.f a0 0).bind fun t369 => (if t369 = true then (none) else ((math_IsNaN.f a0).bind fun t370 => (if t370 = true then (none) else ((math_normalize.f a0).bind fun bt371 => (some ((Go.bits .or .u64 (Go.bits .andNot .u64 (bt371.1 : Int) 9218868437227405312) 4602678819172646912).toNat, wrap64 (bt371.2 + (wrap64 ((wrap64 ((wrap64 (Go.bits .and .u64 ((bt371.1 : Int) / 4503599627370496) 2047)) - 1023)) + 1))))))))))
set_option maxHeartbeats 8000000 in
set_option maxRecDepth 100000 in
theorem math_frexp.calls (a0 : Nat) (r1 : Nat) (r2 : Int) (w : World) (h : math_frexp.f a0 = some (r1, r2)) :
  Calls Tryd.prog 60 #[.float .f64 a0] w fun e w' => e = .returned (.tuple #[.float .f64 r1, .int .i64 r2]) ∧ Drawn0 w w' := by
 have H : (if (FloatKind.f64.format.order a0 0 == some Ordering.eq) = true then (none) else ((math_IsInf.f a0 0).bind fun t369 => (if t369 = true then (none) else ((math_IsNaN.f a0).bind fun t370 => (if t370 = true then (none) else ((math_normalize.f a0).bind fun bt371 => (some ((Go.bits .or .u64 (Go.bits .andNot .u64 (bt371.1 : Int) 9218868437227405312) 4602678819172646912).toNat, wrap64 (bt371.2 + (wrap64 ((wrap64 ((wrap64 (Go.bits .and .u64 ((bt371.1 : Int) / 4503599627370496) 2047)) - 1023)) + 1))))))))))) = some (r1, r2) := h
 clear h
 by_cases c2 : (FloatKind.f64.format.order a0 0 == some Ordering.eq) = true
 ·rw [if_pos c2] at H
  exact absurd H (by simp)
 ·rw [if_neg c2] at H
  have c2b0 : (FloatKind.f64.format.order a0 0 == some Ordering.eq) = false := by simpa using c2
  (try (have c2b1 : decide (FloatKind.f64.format.order a0 0 = some Ordering.eq) = false := by simpa using c2))
  (try (have c2b2 : (FloatKind.f64.format.order a0 0 == some Ordering.eq) = false := by simpa using c2))
  (try (have c2b3 : ¬ (FloatKind.f64.format.order a0 0 = some Ordering.eq) := by simpa using c2))
  clear c2
  obtain ⟨t369, A30, H⟩ := Option.bind_eq_some_iff.mp H
  try dsimp only at H
  have A3 := Aside0.mk A30
  clear A30
  by_cases c4 : t369 = true
  ·subst c4
   have H1 : (none) = some (r1, r2) := by rw [if_pos rfl] at H; exact H
   clear H
   have H := H1
   clear H1
   exact absurd H (by simp)
  ·replace c4 := Bool.eq_false_iff.mpr c4
   subst c4
   have H1 : ((math_IsNaN.f a0).bind fun t370 => (if t370 = true then (none) else ((math_normalize.f a0).bind fun bt371 => (some ((Go.bits .or .u64 (Go.bits .andNot .u64 (bt371.1 : Int) 9218868437227405312) 4602678819172646912).toNat, wrap64 (bt371.2 + (wrap64 ((wrap64 ((wrap64 (Go.bits .and .u64 ((bt371.1 : Int) / 4503599627370496) 2047)) - 1023)) + 1)))))))) = some (r1, r2) := by rw [if_neg (show ¬ (false = true) by decide)] at H; exact H
   clear H
   have H := H1
   clear H1
   obtain ⟨t370, A50, H⟩ := Option.bind_eq_some_iff.mp H
   try dsimp only at H
   have A5 := Aside0.mk A50
   clear A50
   by_cases c6 : t370 = true
   ·subst c6
    have H1 : (none) = some (r1, r2) := by rw [if_pos rfl] at H; exact H
    clear H
    have H := H1
    clear H1
    exact absurd H (by simp)
   ·replace c6 := Bool.eq_false_iff.mpr c6
    subst c6
    have H1 : ((math_normalize.f a0).bind fun bt371 => (some ((Go.bits .or .u64 (Go.bits .andNot .u64 (bt371.1 : Int) 9218868437227405312) 4602678819172646912).toNat, wrap64 (bt371.2 + (wrap64 ((wrap64 ((wrap64 (Go.bits .and .u64 ((bt371.1 : Int) / 4503599627370496) 2047)) - 1023)) + 1)))))) = some (r1, r2) := by rw [if_neg (show ¬ (false = true) by decide)] at H; exact H
    clear H
    have H := H1
    clear H1
    obtain ⟨⟨t371, t372⟩, A70, H⟩ := Option.bind_eq_some_iff.mp H
    try dsimp only at H
    have A7 := Aside0.mk A70
    clear A70
    simp only [Option.some.injEq, Prod.mk.injEq] at H
    obtain ⟨rfl, rfl⟩ := H
    have hxf64bits_run_ := @f64bits_run
    have hxf64from_run_ := @f64from_run
    go_enter Tryd.func60, Tryd.ntmps60
    go_wp2_with (first | ((with_reducible refine gate_callee (f := 31) rfl ?_); refine goesL_ (some 11) rfl rfl Tryd.func31 (by kernel_rfl) rfl #[.float .f64 a0, .int .i64 0] rfl qL ?_; (with_reducible refine (math_IsInf.calls a0 0 false _ A3.out).mono ?_); rintro e w' ⟨rfl, ⟨nd, rfl⟩⟩; refine ⟨_, rfl, ?_⟩) | (go_at_call 30; (with_reducible refine (math_IsNaN.calls a0 false _ A5.out).mono ?_); rintro e w' ⟨rfl, ⟨nd, rfl⟩⟩) | ((with_reducible refine gate_callee (f := 69) rfl ?_); refine goesL_ (some 19) rfl rfl Tryd.func69 (by kernel_rfl) rfl #[.float .f64 a0] rfl qL ?_; (with_reducible refine (math_normalize.calls a0 t371 t372 _ A7.out).mono ?_); rintro e w' ⟨rfl, ⟨nd, rfl⟩⟩; refine ⟨_, rfl, ?_⟩))
    go_ret2
    exact ⟨by first | rfl | (simp; done) | (simp [*]; done), by repeat (first | exact Drawn0.refl _ | apply Drawn0.step)⟩

/-! ### math_Frexp: function 33 -/
def math_Frexp.f (a0 : Nat) : Option (Nat × Int) := (math_frexp.f a0).bind fun bt373 => (some (bt373.1, bt373.2))
set_option maxHeartbeats 8000000 in
set_option maxRecDepth 100000 in
theorem math_Frexp.calls (a0 : Nat) (r1 : Nat) (r2 : Int) (w : World) (h : math_Frexp.f a0 = some (r1, r2)) :
  Calls Tryd.prog 33 #[.float .f64 a0] w fun e w' => e = .returned (.tuple #[.float .f64 r1, .int .i64 r2]) ∧ Drawn0 w w' := by
 have H : ((math_frexp.f a0).bind fun bt373 => (some (bt373.1, bt373.2))) = some (r1, r2) := h
 clear h
 obtain ⟨⟨t373, t374⟩, A20, H⟩ := Option.bind_eq_some_iff.mp H
 try dsimp only at H
 have A2 := Aside0.mk A20
 clear A20
 simp only [Option.some.injEq, Prod.mk.injEq] at H
 obtain ⟨rfl, rfl⟩ := H
 go_enter Tryd.func33, Tryd.ntmps33
 go_wp2_with (first | ((with_reducible refine gate_callee (f := 60) rfl ?_); refine goesL_ (some 9) rfl rfl Tryd.func60 (by kernel_rfl) rfl #[.float .f64 a0] rfl qL ?_; (with_reducible refine (math_frexp.calls a0 t373 t374 _ A2.out).mono ?_); rintro e w' ⟨rfl, ⟨nd, rfl⟩⟩; refine ⟨_, rfl, ?_⟩))
 go_ret2
 exact ⟨by first | rfl | (simp; done) | (simp [*]; done), by repeat (first | exact Drawn0.refl _ | apply Drawn0.step)⟩

/-! ### nat_times: function 62 -/
mutual
def nat_times.l0 : Nat → List Int → List Int → List Int → Int → Int → Option (List Int)
 | 0, _, _, _, _, _ => none
 | k + 1, x1, x5, x17, x18, x19 => if x19 < x18 then (if 0 ≤ x19 then (if x19 < (x17.length : Int) then (nat_times.l1 k x1 x5 x19 (rd x17 x19) 0 x17 x18 x19 x1 (x1.length : Int) 0) else (none)) else (none)) else ((nat_trim.f k x5).bind fun t378 => (some t378))
def nat_times.l1 : Nat → List Int → List Int → Int → Int → Int → List Int → Int → Int → List Int → Int → Int → Option (List Int)
 | 0, _, _, _, _, _, _, _, _, _, _, _ => none
 | k + 1, x1, x5, x6, x7, x8, x17, x18, x19, x24, x25, x26 => if x26 < x25 then (if 0 ≤ x26 then (if x26 < (x24.length : Int) then (if 0 ≤ (wrap64 (x6 + x26)) then (if (wrap64 (x6 + x26)) < (x5.length : Int) then (nat_times.l1 k x1 (x5.set ((wrap64 (x6 + x26)) : Int).toNat ((IntKind.u64.wrap (x8 + (IntKind.u64.wrap ((IntKind.u64.wrap ((IntKind.u64.wrap (x7)) * (IntKind.u64.wrap (rd x24 x26)))) + (IntKind.u64.wrap (rd x5 (wrap64 (x6 + x26)))))))) % 4294967296)) x6 x7 ((IntKind.u64.wrap (x8 + (IntKind.u64.wrap ((IntKind.u64.wrap ((IntKind.u64.wrap (x7)) * (IntKind.u64.wrap (rd x24 x26)))) + (IntKind.u64.wrap (rd x5 (wrap64 (x6 + x26)))))))) / 4294967296) x17 x18 x19 x24 x25 (wrap64 (x26 + 1))) else (none)) else (none)) else (none)) else (none)) else (if 0 ≤ (wrap64 (x6 + (x1.length : Int))) then (if (wrap64 (x6 + (x1.length : Int))) < (x5.length : Int) then (nat_times.l0 k x1 (x5.set ((wrap64 (x6 + (x1.length : Int))) : Int).toNat ((x8) % 4294967296)) x17 x18 (wrap64 (x19 + 1))) else (none)) else (none))
end
def nat_times.f (k : Nat) (l0 : List Int) (l1 : List Int) : Option (List Int) := if 0 ≤ (wrap64 ((l0.length : Int) + (l1.length : Int))) then (if (wrap64 ((l0.length : Int) + (l1.length : Int)) : Int).toNat ≤ 70368744177664 then (nat_times.l0 k l1 (List.replicate (wrap64 ((l0.length : Int) + (l1.length : Int)) : Int).toNat 0) l0 (l0.length : Int) 0) else (none)) else (none)
theorem nat_times.mono_l : ∀ k, (∀ y0 y1 y2 y3 y4, LeO (nat_times.l0 k y0 y1 y2 y3 y4) (nat_times.l0 (k + 1) y0 y1 y2 y3 y4)) ∧ (∀ y0 y1 y2 y3 y4 y5 y6 y7 y8 y9 y10, LeO (nat_times.l1 k y0 y1 y2 y3 y4 y5 y6 y7 y8 y9 y10) (nat_times.l1 (k + 1) y0 y1 y2 y3 y4 y5 y6 y7 y8 y9 y10))
 | 0 => ⟨fun _ _ _ _ _ r h => by simp [nat_times.l0] at h, fun _ _ _ _ _ _ _ _ _ _ _ r h => by simp [nat_times.l1] at h⟩
 | k + 1 => by
  obtain ⟨ih0, ih1⟩ := nat_times.mono_l k
  refine ⟨?_, ?_⟩
  ·intro y0 y1 y2 y3 y4
   unfold nat_times.l0
   repeat' first
   | (with_reducible exact ih0 _ _ _ _ _)
   | (with_reducible exact ih1 _ _ _ _ _ _ _ _ _ _ _)
   | (with_reducible exact nat_trim.mono _ _)
   | (with_reducible exact LeO.refl _)
   | (with_reducible exact LeO.none _)
   | (with_reducible refine LeO.ite ?_ ?_)
   | (with_reducible refine LeO.bind ?_ (fun _ => ?_))
   | exact ih0 _ _ _ _ _
   | exact ih1 _ _ _ _ _ _ _ _ _ _ _
   | exact nat_trim.mono _ _
   | exact LeO.none _
   | refine LeO.ite ?_ ?_
   | refine LeO.bind ?_ (fun _ => ?_)
  ·intro y0 y1 y2 y3 y4 y5 y6 y7 y8 y9 y10
   unfold nat_times.l1
   repeat' first
   | (with_reducible exact ih0 _ _ _ _ _)
   | (with_reducible exact ih1 _ _ _ _ _ _ _ _ _ _ _)
   | (with_reducible exact nat_trim.mono _ _)
   | (with_reducible exact LeO.refl _)
   | (with_reducible exact LeO.none _)
   | (with_reducible refine LeO.ite ?_ ?_)
   | (with_reducible refine LeO.bind ?_ (fun _ => ?_))
   | exact ih0 _ _ _ _ _
   | exact ih1 _ _ _ _ _ _ _ _ _ _ _
   | exact nat_trim.mono _ _
   | exact LeO.none _
   | refine LeO.ite ?_ ?_
   | refine LeO.bind ?_ (fun _ => ?_)
theorem nat_times.mono : ∀ a0 a1 k, LeO (nat_times.f k a0 a1) (nat_times.f (k + 1) a0 a1) := by
 intro a0 a1 k
 obtain ⟨ih0, ih1⟩ := nat_times.mono_l k
 unfold nat_times.f
 repeat' first
   | (with_reducible exact ih0 _ _ _ _ _)
   | (with_reducible exact ih1 _ _ _ _ _ _ _ _ _ _ _)
   | (with_reducible exact nat_trim.mono _ _)
   | (with_reducible exact LeO.refl _)
   | (with_reducible exact LeO.none _)
   | (with_reducible refine LeO.ite ?_ ?_)
   | (with_reducible refine LeO.bind ?_ (fun _ => ?_))
   | exact ih0 _ _ _ _ _
   | exact ih1 _ _ _ _ _ _ _ _ _ _ _
   | exact nat_trim.mono _ _
   | exact LeO.none _
   | refine LeO.ite ?_ ?_
   | refine LeO.bind ?_ (fun _ => ?_)
set_option maxHeartbeats 8000000 in
set_option maxRecDepth 100000 in
theorem nat_times.calls (k : Nat) (A0 : Option Addr) (c0 : Nat) (l0 : List Int) (A1 : Option Addr) (c1 : Nat) (l1 : List Int) (r : List Int) (w : World) (hr0 : Kd.C (Kd.int .u32) w A0 l0.length l0) (hc0 : l0.length ≤ c0) (hr1 : Kd.C (Kd.int .u32) w A1 l1.length l1) (hc1 : l1.length ≤ c1) (h : nat_times.f k l0 l1 = some r) :
  Calls Tryd.prog 62 #[.slice A0 l0.length c0, .slice A1 l1.length c1] w fun e w' => ∃ v0_ : Value, e = .returned (v0_) ∧ Kd.R (Kd.int .u32) 47 w' w.heap.size (fun _ => True) v0_ r ∧ Below w.heap.size w w' := by
 have HR0 := Aside0.mk hr0
 have HC0 := Aside0.mk hc0
 clear hr0 hc0
 have HR1 := Aside0.mk hr1
 have HC1 := Aside0.mk hc1
 clear hr1 hc1
 have HB := Aside0.mk (Below.refl w.heap.size w)
 have H : (if 0 ≤ (wrap64 ((l0.length : Int) + (l1.length : Int))) then (if (wrap64 ((l0.length : Int) + (l1.length : Int)) : Int).toNat ≤ 70368744177664 then (nat_times.l0 k l1 (List.replicate (wrap64 ((l0.length : Int) + (l1.length : Int)) : Int).toNat 0) l0 (l0.length : Int) 0) else (none)) else (none)) = some r := h
 clear h
 obtain ⟨ji3, hji3⟩ : ∃ j_ : Int, (wrap64 ((l0.length : Int) + (l1.length : Int))) = j_ := ⟨_, rfl⟩
 replace H : (if 0 ≤ (ji3) then (if (ji3 : Int).toNat ≤ 70368744177664 then (nat_times.l0 k l1 (List.replicate (ji3 : Int).toNat 0) l0 (l0.length : Int) 0) else (none)) else (none)) = some r := by first | (rw [hji3] at H; exact H) | (simp only [hji3] at H ⊢; exact H)
 have hji3w : (IntKind.i64.wrap ((l0.length : Int) + (l1.length : Int))) = ji3 := (i64_w _).trans hji3
 by_cases c4 : 0 ≤ (ji3)
 ·rw [if_pos c4] at H
  have c4b0 := eq_true c4
  have c4b1 : decide (0 ≤ (ji3)) = true := decide_eq_true c4
  clear c4
  by_cases c5 : (ji3 : Int).toNat ≤ 70368744177664
  ·rw [if_pos c5] at H
   have c5b0 := eq_true c5
   have c5b1 : decide ((ji3 : Int).toNat ≤ 70368744177664) = true := decide_eq_true c5
   clear c5
   obtain ⟨y375, hy375⟩ : ∃ y_ : List Int, y_ = (List.replicate (ji3 : Int).toNat 0) := ⟨_, rfl⟩
   replace H : (nat_times.l0 k l1 y375 l0 (l0.length : Int) 0) = some r := by first | (rw [hy375]; with_reducible exact H) | (have H2_ := (Option.bind_some _ _).symm.trans H; rw [hy375]; with_reducible exact H2_) | (have H2_ := (Option.bind_some _ _).symm.trans H; with_reducible exact H2_) | with_reducible exact H | (rw [hy375]; exact H) | exact H
   have Ny375 := Aside0.mk hy375
   clear hy375
   have H' := Aside0.mk H
   clear H
   go_enter Tryd.func62, Tryd.ntmps62
   go_wp2_with (first | ((with_reducible refine gate_dst (N := 16) rfl ?_); refine Kd.R_make (Kd.int .u32) _ 47 rfl (N := 16) rfl 22 _ _ rfl ji3 rfl rfl Tryd.underlying22 (.int .u32 0) 4 info47 rfl (by decide) (by omega) 0 (ok := fun _ => True) (okp := fun _ => True) rfl (fun _ hk => hk) trivial (of_decide_eq_true qA) (Nat.le_trans (Nat.mul_le_mul_right _ (of_decide_eq_true qA : ji3.toNat ≤ 70368744177664)) (by omega)) (Below.refl _ _) (Nat.le_refl _) ?_; intro v376 w6 ho7 hb hg_ hnew_; clear hg_ hnew_; (first | rw [← Ny375.out] at ho7 | (simp only [Int.reduceToNat] at ho7; rw [← Ny375.out] at ho7)); have n0_ := Aside0.mk (Kd.R_lower ho7 (below_size qB)); have n1_ := Aside0.mk (below_step qB hb); clear HB; have HO377 := n0_; have HB := n1_; clear n0_ n1_; clear hb ho7))
   go_loopg [19] k (fun kq v19 w' => ∃ (x5_1 : List Int) (x19_1 : Int), v19 = .int .i64 x19_1 ∧ Aside0 (nat_times.l0 kq l1 x5_1 l0 (l0.length : Int) x19_1 = some r) ∧ Aside0 (kq ≤ k) ∧ Aside0 (Kd.R (Kd.int .u32) 47 w' w.heap.size (fun _ => True) v376 x5_1) ∧ Aside0 (Below w.heap.size w w'))
   case atStart => exact ⟨(y375), (0), (by first | rfl | (simp; done) | (simp [*]; done)), H', ⟨Nat.le_refl _⟩, ⟨by (with_reducible repeat (first | apply Kd.R_alloc | apply Kd.R_drewN | apply Kd.R_drew)); exact HO377.out⟩, ⟨qB⟩⟩
   case round =>
    clear H'
    try clear c1
    try clear p2
    try clear c4
    try clear c4b0
    try clear c4b1
    try clear c5
    try clear c5b0
    try clear c5b1
    try clear c6
    try clear p6
    obtain ⟨x5_1, x19_1, rfl, HA, HK1, HO_5, HB⟩ := hrel
    cases gk with
    | zero => exact absurd HA.out (by simp [nat_times.l0])
    | succ k1 =>
     have H := HA.out
     clear HA
     simp only [nat_times.l0] at H
     by_cases c8 : x19_1 < (l0.length : Int)
     ·rw [if_pos c8] at H
      have c8b0 : decide (x19_1 < (l0.length : Int)) = true := decide_eq_true c8
      clear c8
      by_cases c9 : 0 ≤ x19_1
      ·rw [if_pos c9] at H
       have c9b0 : decide (0 ≤ x19_1) = true := decide_eq_true c9
       clear c9
       by_cases c10 : x19_1 < (l0.length : Int)
       ·rw [if_pos c10] at H
        have c10b0 : decide (x19_1 < (l0.length : Int)) = true := decide_eq_true c10
        clear c10
        have H' := Aside0.mk H
        clear H
        have p381 : 0 ≤ (x19_1 : Int) := of_decide_eq_true qA
        have q381 : x19_1 < (l0.length : Int) := of_decide_eq_true qA
        obtain ⟨ad381, e381, hx381_0⟩ := Kd.at_int HR0.out x19_1 p381 q381
        cases e381
        replace hx381_0 := (HB.out.cell (World.block_lt_of_cell? w _ hx381_0)).trans hx381_0
        replace p381 := eq_true p381
        replace q381 := eq_true q381
        go_wp2
        go_loopg [8, 26] k1 (fun kq v8 v26 w' => ∃ (x5_2 : List Int) (x8_2 : Int) (x26_2 : Int), v8 = .int .u64 x8_2 ∧ v26 = .int .i64 x26_2 ∧ Aside0 (nat_times.l1 kq l1 x5_2 x19_1 (rd l0 x19_1) x8_2 l0 (l0.length : Int) x19_1 l1 (l1.length : Int) x26_2 = some r) ∧ Aside0 (kq ≤ k1) ∧ Aside0 (Kd.R (Kd.int .u32) 47 w' w.heap.size (fun _ => True) v376 x5_2) ∧ Aside0 (Below w.heap.size w w'))
        case atStart => exact ⟨(x5_1), (0), (0), (by first | rfl | (simp; done) | (simp [*]; done)), (by first | rfl | (simp; done) | (simp [*]; done)), H', ⟨Nat.le_refl _⟩, ⟨by (with_reducible repeat (first | apply Kd.R_alloc | apply Kd.R_drewN | apply Kd.R_drew)); exact HO_5.out⟩, ⟨qB⟩⟩
        case round =>
         clear H'
         try clear c1
         try clear p2
         try clear p3
         try clear q3
         try clear hx3
         try clear c4
         try clear c4b0
         try clear c4b1
         try clear c5
         try clear c5b0
         try clear c5b1
         try clear c6
         try clear p6
         try clear c8
         try clear c8b0
         try clear c9
         try clear c9b0
         try clear c10
         try clear c10b0
         try clear hx381_0
         try clear p2
         try clear p381
         try clear p6
         try clear q381
         obtain ⟨x5_2, x8_2, x26_2, rfl, rfl, HA, HK2, HO_5, HB⟩ := hrel
         cases gk with
         | zero => exact absurd HA.out (by simp [nat_times.l1])
         | succ k2 =>
          have H := HA.out
          clear HA
          simp only [nat_times.l1] at H
          by_cases c11 : x26_2 < (l1.length : Int)
          ·rw [if_pos c11] at H
           have c11b0 : decide (x26_2 < (l1.length : Int)) = true := decide_eq_true c11
           clear c11
           by_cases c12 : 0 ≤ x26_2
           ·rw [if_pos c12] at H
            have c12b0 : decide (0 ≤ x26_2) = true := decide_eq_true c12
            clear c12
            by_cases c13 : x26_2 < (l1.length : Int)
            ·rw [if_pos c13] at H
             have c13b0 : decide (x26_2 < (l1.length : Int)) = true := decide_eq_true c13
             clear c13
             obtain ⟨ji14, hji14⟩ : ∃ j_ : Int, (wrap64 (x19_1 + x26_2)) = j_ := ⟨_, rfl⟩
             replace H : (if 0 ≤ (ji14) then (if (ji14) < (x5_2.length : Int) then (nat_times.l1 k2 l1 (x5_2.set ((ji14) : Int).toNat ((IntKind.u64.wrap (x8_2 + (IntKind.u64.wrap ((IntKind.u64.wrap ((IntKind.u64.wrap ((rd l0 x19_1))) * (IntKind.u64.wrap (rd l1 x26_2)))) + (IntKind.u64.wrap (rd x5_2 (ji14))))))) % 4294967296)) x19_1 (rd l0 x19_1) ((IntKind.u64.wrap (x8_2 + (IntKind.u64.wrap ((IntKind.u64.wrap ((IntKind.u64.wrap ((rd l0 x19_1))) * (IntKind.u64.wrap (rd l1 x26_2)))) + (IntKind.u64.wrap (rd x5_2 (ji14))))))) / 4294967296) l0 (l0.length : Int) x19_1 l1 (l1.length : Int) (wrap64 (x26_2 + 1))) else (none)) else (none)) = some r := by first | (rw [hji14] at H; exact H) | (simp only [hji14] at H ⊢; exact H)
             have hji14w : (IntKind.i64.wrap (x19_1 + x26_2)) = ji14 := (i64_w _).trans hji14
             by_cases c15 : 0 ≤ (ji14)
             ·rw [if_pos c15] at H
              have c15b0 : decide (0 ≤ (ji14)) = true := decide_eq_true c15
              clear c15
              by_cases c16 : (ji14) < (x5_2.length : Int)
              ·rw [if_pos c16] at H
               have c16b0 : decide ((ji14) < (x5_2.length : Int)) = true := decide_eq_true c16
               clear c16
               obtain ⟨y384, hy384⟩ : ∃ y_ : List Int, y_ = (x5_2.set ((ji14) : Int).toNat ((IntKind.u64.wrap (x8_2 + (IntKind.u64.wrap ((IntKind.u64.wrap ((IntKind.u64.wrap ((rd l0 x19_1))) * (IntKind.u64.wrap (rd l1 x26_2)))) + (IntKind.u64.wrap (rd x5_2 (ji14))))))) % 4294967296)) := ⟨_, rfl⟩
               replace H : (nat_times.l1 k2 l1 y384 x19_1 (rd l0 x19_1) ((IntKind.u64.wrap (x8_2 + (IntKind.u64.wrap ((IntKind.u64.wrap ((IntKind.u64.wrap ((rd l0 x19_1))) * (IntKind.u64.wrap (rd l1 x26_2)))) + (IntKind.u64.wrap (rd x5_2 (ji14))))))) / 4294967296) l0 (l0.length : Int) x19_1 l1 (l1.length : Int) (wrap64 (x26_2 + 1))) = some r := by first | (rw [hy384]; with_reducible exact H) | (have H2_ := (Option.bind_some _ _).symm.trans H; rw [hy384]; with_reducible exact H2_) | (have H2_ := (Option.bind_some _ _).symm.trans H; with_reducible exact H2_) | with_reducible exact H | (rw [hy384]; exact H) | exact H
               have Ny384 := Aside0.mk hy384
               clear hy384
               have H' := Aside0.mk H
               clear H
               have p382 : 0 ≤ (x26_2 : Int) := of_decide_eq_true qA
               have q382 : x26_2 < (l1.length : Int) := of_decide_eq_true qA
               obtain ⟨ad382, e382, hx382_0⟩ := Kd.at_int HR1.out x26_2 p382 q382
               cases e382
               replace hx382_0 := (HB.out.cell (World.block_lt_of_cell? w _ hx382_0)).trans hx382_0
               replace p382 := eq_true p382
               replace q382 := eq_true q382
               obtain ⟨Ao18, co18, eo18⟩ := Kd.R_slice HO_5.out
               subst eo18
               have p383 : 0 ≤ ((ji14) : Int) := of_decide_eq_true qA
               have q383 : (ji14) < (x5_2.length : Int) := of_decide_eq_true qA
               obtain ⟨ad383, e383, hx383_0⟩ := Kd.at_int (Kd.R_reads' HO_5.out).2.2 (ji14) p383 q383
               cases e383
               replace p383 := eq_true p383
               replace q383 := eq_true q383
               have p17 : 0 ≤ ((ji14) : Int) := of_decide_eq_true qA
               have q17 : ((ji14) : Int) < ((x5_2.length : Int) : Int) := of_decide_eq_true qA
               obtain ⟨go17, co17, eo17, gb17, gl17, cl17, HG17⟩ := Kd.R_form HO_5.out (by omega)
               (first | cases eo17 | (injection eo17 with ea_ en_ ec_; (first | subst ea_ | (injection ea_ with ea_; subst ea_)); subst ec_; clear en_))
               have GB17 := Aside0.mk gb17
               have GG17 := Aside0.mk HG17
               clear gb17 gl17 HG17
               (first | simp only [add_plain] at hx383_0 | skip)
               obtain ⟨hx17_0, hf17_0⟩ := Kd.R_celln 0 HO_5.out ((ji14) : Int) p17 q17
               replace p17 := eq_true p17
               replace q17 := eq_true q17
               have HP19 := Kd.R_putg HO_5.out ((ji14) : Int) ((IntKind.u64.wrap (x8_2 + (IntKind.u64.wrap ((IntKind.u64.wrap ((IntKind.u64.wrap ((rd l0 x19_1))) * (IntKind.u64.wrap (rd l1 x26_2)))) + (IntKind.u64.wrap (rd x5_2 (ji14))))))) % 4294967296)
               go_wp2_with (first | ((with_reducible refine gate_store (t := 47) (p := 52) rfl ?_); refine store_event (t := 47) (p := 52) (v := ?vo_w20) (w1 := (wr.setCell ⟨go17, ((ji14) : Int).toNat, none⟩ (.int .u32 ((IntKind.u64.wrap (x8_2 + (IntKind.u64.wrap ((IntKind.u64.wrap ((IntKind.u64.wrap ((rd l0 x19_1))) * (IntKind.u64.wrap (rd l1 x26_2)))) + (IntKind.u64.wrap (rd x5_2 (ji14))))))) % 4294967296)))) ?hg ?ho ?hn ?hr ?_; (case ho => rfl); (case hg => rfl); (case hn => rfl); (case hr => first | (go_simp; done) | (go_simp; rfl)); intro w20 hw; have hg : wr.grownBy w20 (some go17) := (by rw [hw]; exact HP19.2); have hp_ : Kd.R (Kd.int .u32) 47 w20 w.heap.size (fun _ => True) (.slice (some ⟨go17, 0, none⟩) x5_2.length co18) y384 := (by rw [hw, Ny384.out]; exact HP19.1); clear HP19; have n0_ := Aside0.mk (hp_); have n1_ := Aside0.mk ((by rw [hw]; exact below_set (HB.out) GB17.out : Below w.heap.size w w20)); clear HO_5; clear HB; have HO_5 := n0_; have HB := n1_; clear n0_ n1_; clear hg hw hp_))
               go_roundg k2
               case measure => have := HK1.out; have := HK2.out; omega
               case rel => exact ⟨(y384), ((IntKind.u64.wrap (x8_2 + (IntKind.u64.wrap ((IntKind.u64.wrap ((IntKind.u64.wrap ((rd l0 x19_1))) * (IntKind.u64.wrap (rd l1 x26_2)))) + (IntKind.u64.wrap (rd x5_2 (ji14))))))) / 4294967296), (wrap64 (x26_2 + 1)), (by first | rfl | (simp; done) | (simp only [← hji14] <;> (first | rfl | simp)) | (simp [*]; done)), (by first | rfl | (simp; done) | (simp [*]; done)), H', ⟨by have := HK1.out; have := HK2.out; omega⟩, ⟨by (with_reducible repeat (first | apply Kd.R_alloc | apply Kd.R_drewN | apply Kd.R_drew)); exact HO_5.out⟩, ⟨qB⟩⟩
              ·rw [if_neg c16] at H
               exact absurd H (by simp)
             ·rw [if_neg c15] at H
              exact absurd H (by simp)
            ·rw [if_neg c13] at H
             exact absurd H (by simp)
           ·rw [if_neg c12] at H
            exact absurd H (by simp)
          ·rw [if_neg c11] at H
           have c11b0 : decide (x26_2 < (l1.length : Int)) = false := decide_eq_false c11
           clear c11
           obtain ⟨ji21, hji21⟩ : ∃ j_ : Int, (wrap64 (x19_1 + (l1.length : Int))) = j_ := ⟨_, rfl⟩
           replace H : (if 0 ≤ (ji21) then (if (ji21) < (x5_2.length : Int) then (nat_times.l0 k2 l1 (x5_2.set ((ji21) : Int).toNat ((x8_2) % 4294967296)) l0 (l0.length : Int) (wrap64 (x19_1 + 1))) else (none)) else (none)) = some r := by first | (rw [hji21] at H; exact H) | (simp only [hji21] at H ⊢; exact H)
           have hji21w : (IntKind.i64.wrap (x19_1 + (l1.length : Int))) = ji21 := (i64_w _).trans hji21
           by_cases c22 : 0 ≤ (ji21)
           ·rw [if_pos c22] at H
            have c22b0 : decide (0 ≤ (ji21)) = true := decide_eq_true c22
            clear c22
            by_cases c23 : (ji21) < (x5_2.length : Int)
            ·rw [if_pos c23] at H
             have c23b0 : decide ((ji21) < (x5_2.length : Int)) = true := decide_eq_true c23
             clear c23
             obtain ⟨y385, hy385⟩ : ∃ y_ : List Int, y_ = (x5_2.set ((ji21) : Int).toNat ((x8_2) % 4294967296)) := ⟨_, rfl⟩
             replace H : (nat_times.l0 k2 l1 y385 l0 (l0.length : Int) (wrap64 (x19_1 + 1))) = some r := by first | (rw [hy385]; with_reducible exact H) | (have H2_ := (Option.bind_some _ _).symm.trans H; rw [hy385]; with_reducible exact H2_) | (have H2_ := (Option.bind_some _ _).symm.trans H; with_reducible exact H2_) | with_reducible exact H | (rw [hy385]; exact H) | exact H
             have Ny385 := Aside0.mk hy385
             clear hy385
             have H' := Aside0.mk H
             clear H
             have p24 : 0 ≤ ((ji21) : Int) := of_decide_eq_true qA
             have q24 : ((ji21) : Int) < ((x5_2.length : Int) : Int) := of_decide_eq_true qA
             obtain ⟨go24, co24, eo24, gb24, gl24, cl24, HG24⟩ := Kd.R_form HO_5.out (by omega)
             (first | cases eo24 | (injection eo24 with ea_ en_ ec_; (first | subst ea_ | (injection ea_ with ea_; subst ea_)); subst ec_; clear en_))
             have GB24 := Aside0.mk gb24
             have GG24 := Aside0.mk HG24
             clear gb24 gl24 HG24
             obtain ⟨hx24_0, hf24_0⟩ := Kd.R_celln 0 HO_5.out ((ji21) : Int) p24 q24
             replace p24 := eq_true p24
             replace q24 := eq_true q24
             have HP25 := Kd.R_putg HO_5.out ((ji21) : Int) ((x8_2) % 4294967296)
             go_wp2_with (first | ((with_reducible refine gate_store (t := 47) (p := 63) rfl ?_); refine store_event (t := 47) (p := 63) (v := ?vo_w26) (w1 := (wr.setCell ⟨go24, ((ji21) : Int).toNat, none⟩ (.int .u32 ((x8_2) % 4294967296)))) ?hg ?ho ?hn ?hr ?_; (case ho => rfl); (case hg => rfl); (case hn => rfl); (case hr => first | (go_simp; done) | (go_simp; rfl)); intro w26 hw; have hg : wr.grownBy w26 (some go24) := (by rw [hw]; exact HP25.2); have hp_ : Kd.R (Kd.int .u32) 47 w26 w.heap.size (fun _ => True) (.slice (some ⟨go24, 0, none⟩) x5_2.length co24) y385 := (by rw [hw, Ny385.out]; exact HP25.1); clear HP25; have n0_ := Aside0.mk (hp_); have n1_ := Aside0.mk ((by rw [hw]; exact below_set (HB.out) GB24.out : Below w.heap.size w w26)); clear HO_5; clear HB; have HO_5 := n0_; have HB := n1_; clear n0_ n1_; clear hg hw hp_))
             go_roundg k2
             case measure => have := HK1.out; have := HK2.out; omega
             case rel => exact ⟨(y385), (wrap64 (x19_1 + 1)), (by first | rfl | (simp; done) | (simp [*]; done)), H', ⟨by have := HK1.out; have := HK2.out; omega⟩, ⟨by (with_reducible repeat (first | apply Kd.R_alloc | apply Kd.R_drewN | apply Kd.R_drew)); exact HO_5.out⟩, ⟨qB⟩⟩
            ·rw [if_neg c23] at H
             exact absurd H (by simp)
           ·rw [if_neg c22] at H
            exact absurd H (by simp)
       ·rw [if_neg c10] at H
        exact absurd H (by simp)
      ·rw [if_neg c9] at H
       exact absurd H (by simp)
     ·rw [if_neg c8] at H
      have c8b0 : decide (x19_1 < (l0.length : Int)) = false := decide_eq_false c8
      clear c8
      obtain ⟨t378, A270, H⟩ := Option.bind_eq_some_iff.mp H
      try dsimp only at H
      have A27 := Aside0.mk A270
      clear A270
      obtain rfl := Option.some.inj H
      obtain ⟨Ao28, co28, eo28⟩ := Kd.R_slice HO_5.out
      subst eo28
      go_wp2_with (first | ((with_reducible refine gate_callee (f := 61) rfl ?_); refine goesL_ (some 66) rfl rfl Tryd.func61 (by kernel_rfl) rfl #[.slice Ao28 x5_1.length co28] rfl qL ?_; (with_reducible refine (nat_trim.calls k1 (fun k_ => some k_ = (.slice Ao28 x5_1.length co28 : Value).ownBlock) (.slice Ao28 x5_1.length co28) x5_1 t378 w _ ?side1 ?side2 A27.out).mono ?_); (case side1 => exact qB); (case side2 => exact Kd.R_tight rfl HO_5.out); rintro e w29 ⟨v379, rfl, ho0, hb, hkp⟩; refine ⟨_, rfl, ?_⟩; have n0_ := Aside0.mk (Kd.R_mono (ok' := fun k_ => True) ho0 (fun k_ hk_ => trivial)); have n1_ := Aside0.mk (hb); clear HB; clear HO_5; have HO380 := n0_; have HB := n1_; clear n0_ n1_; (try clear hb); (try clear hkp); (try clear ho0)))
      go_ret
      exact ⟨_, by first | rfl | (simp [errW_none, errW_some] <;> rfl) | (simp only [← hji3]; first | rfl | (simp [errW_none, errW_some] <;> rfl)) | (simp [*, errW_none, errW_some] <;> rfl), by (with_reducible repeat (first | apply Kd.R_alloc | apply Kd.R_drewN | apply Kd.R_drew)); exact HO380.out, qB⟩
  ·rw [if_neg c5] at H
   exact absurd H (by simp)
 ·rw [if_neg c4] at H
  exact absurd H (by simp)

/-! ### nat_Mul: function 35 -/
def nat_Mul.f (k : Nat) (l0 : List Int) (l1 : List Int) : Option (List Int × Int) := (nat_Right.f l0).bind fun t386 => (if t386 = true then ((nat_Right.f l1).bind fun t387 => (if t387 = true then ((nat_times.f k l0 l1).bind fun t388 => ((nat_kept.f t388).bind fun bt391 => (some (bt391.1, bt391.2)))) else (none))) else (none))
theorem nat_Mul.mono : ∀ a0 a1 k, LeO (nat_Mul.f k a0 a1) (nat_Mul.f (k + 1) a0 a1) := by
 intro a0 a1 k
 unfold nat_Mul.f
 repeat' first
   | (with_reducible exact nat_times.mono _ _ _)
   | (with_reducible exact LeO.refl _)
   | (with_reducible exact LeO.none _)
   | (with_reducible refine LeO.ite ?_ ?_)
   | (with_reducible refine LeO.bind ?_ (fun _ => ?_))
   | exact nat_times.mono _ _ _
   | exact LeO.none _
   | refine LeO.ite ?_ ?_
   | refine LeO.bind ?_ (fun _ => ?_)
set_option maxHeartbeats 8000000 in
set_option maxRecDepth 100000 in
theorem nat_Mul.calls (k : Nat) (A0 : Option Addr) (c0 : Nat) (l0 : List Int) (A1 : Option Addr) (c1 : Nat) (l1 : List Int) (r1 : List Int) (r2 : Int) (w : World) (hr0 : Kd.C (Kd.int .u32) w A0 l0.length l0) (hc0 : l0.length ≤ c0) (hr1 : Kd.C (Kd.int .u32) w A1 l1.length l1) (hc1 : l1.length ≤ c1) (h : nat_Mul.f k l0 l1 = some (r1, r2)) :
  Calls Tryd.prog 35 #[.slice A0 l0.length c0, .slice A1 l1.length c1] w fun e w' => ∃ v0_ : Value, e = .returned (.tuple #[v0_, .int .i64 r2]) ∧ Kd.R (Kd.int .u32) 47 w' w.heap.size (fun _ => True) v0_ r1 ∧ Below w.heap.size w w' := by
 have HR0 := Aside0.mk hr0
 have HC0 := Aside0.mk hc0
 clear hr0 hc0
 have HR1 := Aside0.mk hr1
 have HC1 := Aside0.mk hc1
 clear hr1 hc1
 have HB := Aside0.mk (Below.refl w.heap.size w)
 have H : ((nat_Right.f l0).bind fun t386 => (if t386 = true then ((nat_Right.f l1).bind fun t387 => (if t387 = true then ((nat_times.f k l0 l1).bind fun t388 => ((nat_kept.f t388).bind fun bt391 => (some (bt391.1, bt391.2)))) else (none))) else (none))) = some (r1, r2) := h
 clear h
 obtain ⟨t386, A30, H⟩ := Option.bind_eq_some_iff.mp H
 try dsimp only at H
 have A3 := Aside0.mk A30
 clear A30
 by_cases c4 : t386 = true
 ·subst c4
  have H1 : ((nat_Right.f l1).bind fun t387 => (if t387 = true then ((nat_times.f k l0 l1).bind fun t388 => ((nat_kept.f t388).bind fun bt391 => (some (bt391.1, bt391.2)))) else (none))) = some (r1, r2) := by rw [if_pos rfl] at H; exact H
  clear H
  have H := H1
  clear H1
  obtain ⟨t387, A50, H⟩ := Option.bind_eq_some_iff.mp H
  try dsimp only at H
  have A5 := Aside0.mk A50
  clear A50
  by_cases c6 : t387 = true
  ·subst c6
   have H1 : ((nat_times.f k l0 l1).bind fun t388 => ((nat_kept.f t388).bind fun bt391 => (some (bt391.1, bt391.2)))) = some (r1, r2) := by rw [if_pos rfl] at H; exact H
   clear H
   have H := H1
   clear H1
   obtain ⟨t388, A70, H⟩ := Option.bind_eq_some_iff.mp H
   try dsimp only at H
   have A7 := Aside0.mk A70
   clear A70
   obtain ⟨⟨t391, t394⟩, A80, H⟩ := Option.bind_eq_some_iff.mp H
   try dsimp only at H
   have A8 := Aside0.mk A80
   clear A80
   simp only [Option.some.injEq, Prod.mk.injEq] at H
   obtain ⟨rfl, rfl⟩ := H
   go_enter Tryd.func35, Tryd.ntmps35
   go_wp2_with (first | ((with_reducible refine gate_callee (f := 44) rfl ?_); refine goesL_ (some 7) rfl rfl Tryd.func44 (by kernel_rfl) rfl #[.slice A0 l0.length c0] rfl qL ?_; (with_reducible refine (nat_Right.calls _ _ l0 true _ ?side1 ?side2 A3.out).mono ?_); (case side1 => exact qC HR0.out); (case side2 => exact HC0.out); rintro e w' ⟨rfl, ⟨nd, rfl⟩⟩; refine ⟨_, rfl, ?_⟩) | (go_at_call 44; (with_reducible refine (nat_Right.calls _ _ l1 true _ ?side1 ?side2 A5.out).mono ?_); (case side1 => exact qC HR1.out); (case side2 => exact HC1.out); rintro e w' ⟨rfl, ⟨nd, rfl⟩⟩) | ((with_reducible refine gate_callee (f := 62) rfl ?_); refine goesL_ (some 16) rfl rfl Tryd.func62 (by kernel_rfl) rfl #[.slice A0 l0.length c0, .slice A1 l1.length c1] rfl qL ?_; (with_reducible refine (nat_times.calls k _ _ l0 _ _ l1 t388 _ ?side1 ?side2 ?side3 ?side4 A7.out).mono ?_); (case side1 => exact qC HR0.out); (case side2 => exact HC0.out); (case side3 => exact qC HR1.out); (case side4 => exact HC1.out); rintro e w9 ⟨v389, rfl, ho0, hb⟩; refine ⟨_, rfl, ?_⟩; have n0_ := Aside0.mk (Kd.R_lower ho0 (below_size qB)); have n1_ := Aside0.mk (below_step qB hb); clear HB; have HO390 := n0_; have HB := n1_; clear n0_ n1_; (try clear hb); (try clear hb2); (try clear hk); (try clear hi); (try clear ho0); obtain ⟨Ao10, co10, eo10⟩ := Kd.R_slice HO390.out; subst eo10) | ((with_reducible refine gate_callee (f := 50) rfl ?_); refine goesL_ (some 17) rfl rfl Tryd.func50 (by kernel_rfl) rfl #[.slice Ao10 t388.length co10] rfl qL ?_; (with_reducible refine (nat_kept.calls (fun k_ => some k_ = (.slice Ao10 t388.length co10 : Value).ownBlock) (.slice Ao10 t388.length co10) t388 t391 t394 w _ ?side1 ?side2 A8.out).mono ?_); (case side1 => exact qB); (case side2 => exact Kd.R_tight rfl HO390.out); rintro e w11 ⟨v392, rfl, ho0, hb, hkp⟩; refine ⟨_, rfl, ?_⟩; have n0_ := Aside0.mk (Kd.R_mono (ok' := fun k_ => True) ho0 (fun k_ hk_ => trivial)); have n1_ := Aside0.mk (hb); clear HB; clear HO390; have HO393 := n0_; have HB := n1_; clear n0_ n1_; (try clear hb); (try clear hkp); (try clear ho0)))
   go_ret2
   exact ⟨_, by first | rfl | (simp [errW_none, errW_some] <;> rfl) | (simp [*, errW_none, errW_some] <;> rfl), by (with_reducible repeat (first | apply Kd.R_alloc | apply Kd.R_drewN | apply Kd.R_drew)); exact HO393.out, qB⟩
  ·replace c6 := Bool.eq_false_iff.mpr c6
   subst c6
   have H1 : (none) = some (r1, r2) := by rw [if_neg (show ¬ (false = true) by decide)] at H; exact H
   clear H
   have H := H1
   clear H1
   exact absurd H (by simp)
 ·replace c4 := Bool.eq_false_iff.mpr c4
  subst c4
  have H1 : (none) = some (r1, r2) := by rw [if_neg (show ¬ (false = true) by decide)] at H; exact H
  clear H
  have H := H1
  clear H1
  exact absurd H (by simp)

/-! ### rat_reduce: function 49 -/
def rat_reduce.f (k : Nat) (l0 : List Int) (l1 : List Int) : Option (List Int × List Int) := (nat_Gcd.f k l0 l1).bind fun bt396 => ((nat_Div.f k l0 bt396.1).bind fun bt400 => ((nat_Div.f k l1 bt396.1).bind fun bt407 => (some (bt400.1, bt407.1))))
theorem rat_reduce.mono : ∀ a0 a1 k, LeO (rat_reduce.f k a0 a1) (rat_reduce.f (k + 1) a0 a1) := by
 intro a0 a1 k
 unfold rat_reduce.f
 repeat' first
   | (with_reducible exact nat_Div.mono _ _ _)
   | (with_reducible exact nat_Gcd.mono _ _ _)
   | (with_reducible exact LeO.refl _)
   | (with_reducible exact LeO.none _)
   | (with_reducible refine LeO.ite ?_ ?_)
   | (with_reducible refine LeO.bind ?_ (fun _ => ?_))
   | exact nat_Div.mono _ _ _
   | exact nat_Gcd.mono _ _ _
   | exact LeO.none _
   | refine LeO.ite ?_ ?_
   | refine LeO.bind ?_ (fun _ => ?_)
set_option maxHeartbeats 8000000 in
set_option maxRecDepth 100000 in
theorem rat_reduce.calls (k : Nat) (A0 : Option Addr) (c0 : Nat) (l0 : List Int) (A1 : Option Addr) (c1 : Nat) (l1 : List Int) (r1 : List Int) (r2 : List Int) (w : World) (hr0 : Kd.C (Kd.int .u32) w A0 l0.length l0) (hc0 : l0.length ≤ c0) (hr1 : Kd.C (Kd.int .u32) w A1 l1.length l1) (hc1 : l1.length ≤ c1) (h : rat_reduce.f k l0 l1 = some (r1, r2)) :
  Calls Tryd.prog 49 #[.slice A0 l0.length c0, .slice A1 l1.length c1] w fun e w' => ∃ v0_ v1_ : Value, e = .returned (.agg #[v0_, v1_]) ∧ Kd.R (Kd.int .u32) 47 w' w.heap.size (fun k_ => some k_ ≠ (v1_ : Value).ownBlock) v0_ r1 ∧ Kd.R (Kd.int .u32) 47 w' w.heap.size (fun k_ => some k_ ≠ (v0_ : Value).ownBlock) v1_ r2 ∧ Below w.heap.size w w' := by
 have hu25 := Tryd.underlying25
 have HR0 := Aside0.mk hr0
 have HC0 := Aside0.mk hc0
 clear hr0 hc0
 have HR1 := Aside0.mk hr1
 have HC1 := Aside0.mk hc1
 clear hr1 hc1
 have HB := Aside0.mk (Below.refl w.heap.size w)
 have H : ((nat_Gcd.f k l0 l1).bind fun bt396 => ((nat_Div.f k l0 bt396.1).bind fun bt400 => ((nat_Div.f k l1 bt396.1).bind fun bt407 => (some (bt400.1, bt407.1))))) = some (r1, r2) := h
 clear h
 obtain ⟨⟨t396, t399⟩, A30, H⟩ := Option.bind_eq_some_iff.mp H
 try dsimp only at H
 have A3 := Aside0.mk A30
 clear A30
 obtain ⟨⟨t400, t401, t402⟩, A40, H⟩ := Option.bind_eq_some_iff.mp H
 try dsimp only at H
 have A4 := Aside0.mk A40
 clear A40
 obtain ⟨⟨t407, t408, t409⟩, A50, H⟩ := Option.bind_eq_some_iff.mp H
 try dsimp only at H
 have A5 := Aside0.mk A50
 clear A50
 simp only [Option.some.injEq, Prod.mk.injEq] at H
 obtain ⟨rfl, rfl⟩ := H
 go_enter Tryd.func49, Tryd.ntmps49
 go_wp2_with (first | ((with_reducible refine gate_dst (N := 4) rfl ?_); refine box_event ?hg (N := 4) ?hd (cs := #[.slice none 0 0, .slice none 0 0]) (t := 25) ?hr ?_; (case hd => rfl); (case hg => rfl); (case hr => first | (go_simp; done) | (go_simp; rfl)); intro gb395 hg w6 hbox hb; have n0_ := Aside0.mk (below_step qB hb); have n1_ := Aside0.mk (hbox); have n2_ := Aside0.mk ((qZ hg : w.heap.size ≤ gb395)); have n3_ := Aside0.mk ((qZ hg : w.heap.size ≤ gb395)); clear HB; have HB := n0_; have BK395 := n1_; have GW395 := n2_; have GE395 := n3_; clear n0_ n1_ n2_ n3_; clear hb hbox hg) | ((with_reducible refine gate_callee (f := 18) rfl ?_); refine goesL_ (some 16) rfl rfl Tryd.func18 (by kernel_rfl) rfl #[.slice A0 l0.length c0, .slice A1 l1.length c1] rfl qL ?_; (with_reducible refine (nat_Gcd.calls k (fun k_ => k_ < w.heap.size) _ _ l0 (fun k_ => k_ < w.heap.size) _ _ l1 t396 t399 _ ?side1 ?side2 A3.out).mono ?_); (case side1 => exact Kd.V_mk HC0.out (Kd.F_below (Kd.C_F (Kd.heap_int .u32) HR0.out) (qG GE395.out))); (case side2 => exact Kd.V_mk HC1.out (Kd.F_below (Kd.C_F (Kd.heap_int .u32) HR1.out) (qG GE395.out))); rintro e w7 ⟨v397, rfl, ho0, hb⟩; refine ⟨_, rfl, ?_⟩; have n0_ := Aside0.mk (Kd.R_lower (Kd.R_mono (ok' := fun k_ => True) ho0 (fun _ hk_ => trivial)) (below_size (qG GE395.out))); have n1_ := Aside0.mk (blk_below (g := gb395) (o := .cells #[.slice none 0 0, .slice none 0 0] 25 (0, 0)) (qK BK395.out) hb); have n2_ := Aside0.mk (below_step (qG GE395.out) hb); clear BK395; clear HB; have HO398 := n0_; have BK395 := n1_; have HB := n2_; clear n0_ n1_ n2_; (try clear hb); (try clear hb2); (try clear hk); (try clear hi); (try clear ho0); obtain ⟨Ao8, co8, eo8⟩ := Kd.R_slice HO398.out; subst eo8) | ((with_reducible refine gate_callee (f := 25) rfl ?_); refine goesL_ (some 22) rfl rfl Tryd.func25 (by kernel_rfl) rfl #[.slice A0 l0.length c0, .slice Ao8 t396.length co8] rfl qL ?_; (with_reducible refine (nat_Div.calls k _ _ l0 _ _ t396 t400 t401 t402 _ ?side1 ?side2 ?side3 ?side4 A4.out).mono ?_); (case side1 => exact qC (Kd.C_below HR0.out HB.out)); (case side2 => exact HC0.out); (case side3 => exact qC (Kd.R_reads' HO398.out).2.2); (case side4 => exact (Kd.R_reads' HO398.out).2.1); rintro e w9 ⟨v403, v405, rfl, ho0, ho1, hb⟩; refine ⟨_, rfl, ?_⟩; have n0_ := Aside0.mk (Kd.R_mono (Kd.R_told (Kd.R_told (Kd.R_old (qR HO398.out) hb) (Kd.R_base ho0)) (Kd.R_base ho1)) (fun _ h_ => h_.1)); have n1_ := Aside0.mk (Kd.R_lower (Kd.R_new' ho0 (Kd.R_lt (qR HO398.out))) (below_size (qG GE395.out))); have n2_ := Aside0.mk (Kd.R_lower (Kd.R_new' ho1 (Kd.R_lt (qR HO398.out))) (below_size (qG GE395.out))); have n3_ := Aside0.mk (blk_below (g := gb395) (o := .cells #[.slice none 0 0, .slice none 0 0] 25 (0, 0)) (qK BK395.out) hb); have n4_ := Aside0.mk (below_step (qG GE395.out) hb); clear HO398; clear BK395; clear HB; have HO398 := n0_; have HO404 := n1_; have HO406 := n2_; have BK395 := n3_; have HB := n4_; clear n0_ n1_ n2_ n3_ n4_; (try clear hb); (try clear hb2); (try clear hk); (try clear hi); (try clear ho0); (try clear ho1)) | ((with_reducible refine gate_callee (f := 25) rfl ?_); refine goesL_ (some 29) rfl rfl Tryd.func25 (by kernel_rfl) rfl #[.slice A1 l1.length c1, .slice Ao8 t396.length co8] rfl qL ?_; (with_reducible refine (nat_Div.calls k _ _ l1 _ _ t396 t407 t408 t409 _ ?side1 ?side2 ?side3 ?side4 A5.out).mono ?_); (case side1 => exact qC (Kd.C_below HR1.out HB.out)); (case side2 => exact HC1.out); (case side3 => exact qC (Kd.R_reads' HO398.out).2.2); (case side4 => exact (Kd.R_reads' HO398.out).2.1); rintro e w10 ⟨v410, v412, rfl, ho0, ho1, hb⟩; refine ⟨_, rfl, ?_⟩; have n0_ := Aside0.mk (Kd.R_mono (Kd.R_told (Kd.R_told (Kd.R_old (qR HO398.out) hb) (Kd.R_base ho0)) (Kd.R_base ho1)) (fun _ h_ => h_.1)); have n1_ := Aside0.mk (Kd.R_mono (Kd.R_told (Kd.R_told (Kd.R_old (qR HO404.out) hb) (Kd.R_base ho0)) (Kd.R_base ho1)) (fun _ h_ => h_.1)); have n2_ := Aside0.mk (Kd.R_mono (Kd.R_told (Kd.R_told (Kd.R_old (qR HO406.out) hb) (Kd.R_base ho0)) (Kd.R_base ho1)) (fun _ h_ => h_.1)); have n3_ := Aside0.mk (Kd.R_lower (Kd.R_new' (Kd.R_new' (Kd.R_new' ho0 (Kd.R_lt (qR HO398.out))) (Kd.R_lt (qR HO404.out))) (Kd.R_lt (qR HO406.out))) (below_size (qG GE395.out))); have n4_ := Aside0.mk (Kd.R_lower (Kd.R_new' (Kd.R_new' (Kd.R_new' ho1 (Kd.R_lt (qR HO398.out))) (Kd.R_lt (qR HO404.out))) (Kd.R_lt (qR HO406.out))) (below_size (qG GE395.out))); have n5_ := Aside0.mk (blk_below (g := gb395) (o := .cells #[.slice none 0 0, .slice none 0 0] 25 (0, 0)) (qK BK395.out) hb); have n6_ := Aside0.mk (below_step (qG GE395.out) hb); clear HO398; clear HO404; clear HO406; clear BK395; clear HB; have HO398 := n0_; have HO404 := n1_; have HO406 := n2_; have HO411 := n3_; have HO413 := n4_; have BK395 := n5_; have HB := n6_; clear n0_ n1_ n2_ n3_ n4_ n5_ n6_; (try clear hb); (try clear hb2); (try clear hk); (try clear hi); (try clear ho0); (try clear ho1); obtain ⟨Ao11, co11, eo11⟩ := Kd.R_slice HO411.out; subst eo11; obtain ⟨Ao12, co12, eo12⟩ := Kd.R_slice HO404.out; subst eo12; have hcz13_0 : w10.cell? ⟨gb395, 0, none⟩ = some (.slice none 0 0) := (blk_cell BK395.out 0).trans rfl; have hcz13_1 : w10.cell? ⟨gb395, 1, none⟩ = some (.slice none 0 0) := (blk_cell BK395.out 1).trans rfl; have hfz13_0 := blk_frozen BK395.out 0; have hfz13_1 := blk_frozen BK395.out 1))
 refine bodyPost_ret (results_cell_row rfl _ _ gb395 25 #[.slice Ao12 t400.length co12, .slice Ao11 t407.length co11] (0, 0) _ rfl (by (with_reducible repeat (first | refine blk_drewN ?_ _ | refine blk_drew ?_ | refine blk_alloc ?_ _)); refine blk_put (cs := #[.slice Ao12 t400.length co12, .slice none 0 0]) ?_ 1 _ rfl; (with_reducible repeat (first | refine blk_drewN ?_ _ | refine blk_drew ?_ | refine blk_alloc ?_ _)); refine blk_put (cs := #[.slice none 0 0, .slice none 0 0]) ?_ 0 _ rfl; (with_reducible repeat (first | refine blk_drewN ?_ _ | refine blk_drew ?_ | refine blk_alloc ?_ _)); exact BK395.out) Tryd.underlying25 rfl (by kernel_rfl)) rfl ?_
 exact ⟨_, _, by first | rfl | (simp [errW_none, errW_some] <;> rfl) | (simp [*, errW_none, errW_some] <;> rfl), by (with_reducible repeat (first | apply Kd.R_alloc | apply Kd.R_drewN | apply Kd.R_drew)); exact Kd.R_mono (Kd.R_far (p := ⟨gb395, 1, none⟩) (Kd.R_far (p := ⟨gb395, 0, none⟩) (Kd.R_types HO404.out BK395.out (by decide)) (fun _ hk => hk.2) (.slice Ao12 t400.length co12)) (fun _ hk => hk.2) (.slice Ao11 t407.length co11)) (fun _ hk => hk.1.1.2), by (with_reducible repeat (first | apply Kd.R_alloc | apply Kd.R_drewN | apply Kd.R_drew)); exact Kd.R_mono (Kd.R_far (p := ⟨gb395, 1, none⟩) (Kd.R_far (p := ⟨gb395, 0, none⟩) (Kd.R_types HO411.out BK395.out (by decide)) (fun _ hk => hk.2) (.slice Ao12 t400.length co12)) (fun _ hk => hk.2) (.slice Ao11 t407.length co11)) (fun _ hk => hk.1.1.2), by repeat (first | (with_reducible first | exact HB.out | apply below_alloc | apply pw_below_drewN | apply below_drew1 | refine below_set ?_ GE395.out) | exact HB.out)⟩

/-! ### rat_Make: function 37 -/
def rat_Make.f (k : Nat) (l0 : List Int) (l1 : List Int) : Option (List Int × List Int × Int) := (nat_Right.f l0).bind fun t415 => (if t415 = true then ((nat_Right.f l1).bind fun t416 => (if t416 = true then (if (l1.length : Int) = 0 then (none) else ((rat_reduce.f k l0 l1).bind fun bt417 => (some (bt417.1, bt417.2, 0)))) else (none))) else (none))
theorem rat_Make.mono : ∀ a0 a1 k, LeO (rat_Make.f k a0 a1) (rat_Make.f (k + 1) a0 a1) := by
 intro a0 a1 k
 unfold rat_Make.f
 repeat' first
   | (with_reducible exact rat_reduce.mono _ _ _)
   | (with_reducible exact LeO.refl _)
   | (with_reducible exact LeO.none _)
   | (with_reducible refine LeO.ite ?_ ?_)
   | (with_reducible refine LeO.bind ?_ (fun _ => ?_))
   | exact rat_reduce.mono _ _ _
   | exact LeO.none _
   | refine LeO.ite ?_ ?_
   | refine LeO.bind ?_ (fun _ => ?_)
set_option maxHeartbeats 8000000 in
set_option maxRecDepth 100000 in
theorem rat_Make.calls (k : Nat) (A0 : Option Addr) (c0 : Nat) (l0 : List Int) (A1 : Option Addr) (c1 : Nat) (l1 : List Int) (r1 : List Int) (r2 : List Int) (r3 : Int) (w : World) (hr0 : Kd.C (Kd.int .u32) w A0 l0.length l0) (hc0 : l0.length ≤ c0) (hr1 : Kd.C (Kd.int .u32) w A1 l1.length l1) (hc1 : l1.length ≤ c1) (h : rat_Make.f k l0 l1 = some (r1, r2, r3)) :
  Calls Tryd.prog 37 #[.slice A0 l0.length c0, .slice A1 l1.length c1] w fun e w' => ∃ v0_ v1_ : Value, e = .returned (.tuple #[.agg #[v0_, v1_], .int .i64 r3]) ∧ Kd.R (Kd.int .u32) 47 w' w.heap.size (fun k_ => some k_ ≠ (v1_ : Value).ownBlock) v0_ r1 ∧ Kd.R (Kd.int .u32) 47 w' w.heap.size (fun k_ => some k_ ≠ (v0_ : Value).ownBlock) v1_ r2 ∧ Below w.heap.size w w' := by
 have hu25 := Tryd.underlying25
 have HR0 := Aside0.mk hr0
 have HC0 := Aside0.mk hc0
 clear hr0 hc0
 have HR1 := Aside0.mk hr1
 have HC1 := Aside0.mk hc1
 clear hr1 hc1
 have HB := Aside0.mk (Below.refl w.heap.size w)
 have H : ((nat_Right.f l0).bind fun t415 => (if t415 = true then ((nat_Right.f l1).bind fun t416 => (if t416 = true then (if (l1.length : Int) = 0 then (none) else ((rat_reduce.f k l0 l1).bind fun bt417 => (some (bt417.1, bt417.2, 0)))) else (none))) else (none))) = some (r1, r2, r3) := h
 clear h
 obtain ⟨t415, A30, H⟩ := Option.bind_eq_some_iff.mp H
 try dsimp only at H
 have A3 := Aside0.mk A30
 clear A30
 by_cases c4 : t415 = true
 ·subst c4
  have H1 : ((nat_Right.f l1).bind fun t416 => (if t416 = true then (if (l1.length : Int) = 0 then (none) else ((rat_reduce.f k l0 l1).bind fun bt417 => (some (bt417.1, bt417.2, 0)))) else (none))) = some (r1, r2, r3) := by rw [if_pos rfl] at H; exact H
  clear H
  have H := H1
  clear H1
  obtain ⟨t416, A50, H⟩ := Option.bind_eq_some_iff.mp H
  try dsimp only at H
  have A5 := Aside0.mk A50
  clear A50
  by_cases c6 : t416 = true
  ·subst c6
   have H1 : (if (l1.length : Int) = 0 then (none) else ((rat_reduce.f k l0 l1).bind fun bt417 => (some (bt417.1, bt417.2, 0)))) = some (r1, r2, r3) := by rw [if_pos rfl] at H; exact H
   clear H
   have H := H1
   clear H1
   by_cases c7 : (l1.length : Int) = 0
   ·rw [if_pos c7] at H
    exact absurd H (by simp)
   ·rw [if_neg c7] at H
    have c7b0 : ((l1.length : Int) == 0) = false := beq_eq_false_iff_ne.mpr c7
    have c7b1 : ((l1.length : Int) != 0) = true := bne_iff_ne.mpr c7
    have c7b2 : ¬ (l1 = []) := fun h_ => c7 (by rw [h_]; rfl)
    obtain ⟨⟨t417, t420⟩, A80, H⟩ := Option.bind_eq_some_iff.mp H
    try dsimp only at H
    have A8 := Aside0.mk A80
    clear A80
    simp only [Option.some.injEq, Prod.mk.injEq] at H
    obtain ⟨rfl, rfl, rfl⟩ := H
    go_enter Tryd.func37, Tryd.ntmps37
    go_wp2_with (first | ((with_reducible refine gate_dst (N := 4) rfl ?_); refine box_event ?hg (N := 4) ?hd (cs := #[.slice none 0 0, .slice none 0 0]) (t := 25) ?hr ?_; (case hd => rfl); (case hg => rfl); (case hr => first | (go_simp; done) | (go_simp; rfl)); intro gb414 hg w9 hbox hb; have n0_ := Aside0.mk (below_step qB hb); have n1_ := Aside0.mk (hbox); have n2_ := Aside0.mk ((qZ hg : w.heap.size ≤ gb414)); have n3_ := Aside0.mk ((qZ hg : w.heap.size ≤ gb414)); clear HB; have HB := n0_; have BK414 := n1_; have GW414 := n2_; have GE414 := n3_; clear n0_ n1_ n2_ n3_; clear hb hbox hg) | ((with_reducible refine gate_callee (f := 44) rfl ?_); refine goesL_ (some 8) rfl rfl Tryd.func44 (by kernel_rfl) rfl #[.slice A0 l0.length c0] rfl qL ?_; (with_reducible refine (nat_Right.calls _ _ l0 true _ ?side1 ?side2 A3.out).mono ?_); (case side1 => exact qC (Kd.C_below HR0.out HB.out)); (case side2 => exact HC0.out); rintro e w' ⟨rfl, ⟨nd, rfl⟩⟩; refine ⟨_, rfl, ?_⟩; (try (rw [drewN_self w9]; generalize hq_ : World.drewN w9 _ = w9; have n0_ : Aside0 (w9.heap[gb414]? = some (.cells #[.slice none 0 0, .slice none 0 0] 25 (0, 0))) := ⟨by rw [← hq_]; exact (qK BK414.out)⟩; have n1_ : Aside0 (Below w.heap.size w w9) := ⟨by rw [← hq_]; exact (qG GE414.out)⟩; clear BK414 HB hq_; have BK414 := n0_; have HB := n1_; clear n0_ n1_))) | (go_at_call 44; (with_reducible refine (nat_Right.calls _ _ l1 true _ ?side1 ?side2 A5.out).mono ?_); (case side1 => exact qC (Kd.C_below HR1.out HB.out)); (case side2 => exact HC1.out); rintro e w' ⟨rfl, ⟨nd, rfl⟩⟩; (try (rw [drewN_self w9]; generalize hq_ : World.drewN w9 _ = w9; have n0_ : Aside0 (w9.heap[gb414]? = some (.cells #[.slice none 0 0, .slice none 0 0] 25 (0, 0))) := ⟨by rw [← hq_]; exact (qK BK414.out)⟩; have n1_ : Aside0 (Below w.heap.size w w9) := ⟨by rw [← hq_]; exact (qG GE414.out)⟩; clear BK414 HB hq_; have BK414 := n0_; have HB := n1_; clear n0_ n1_))) | ((with_reducible refine gate_callee (f := 49) rfl ?_); refine goesL_ (some 23) rfl rfl Tryd.func49 (by kernel_rfl) rfl #[.slice A0 l0.length c0, .slice A1 l1.length c1] rfl qL ?_; (with_reducible refine (rat_reduce.calls k _ _ l0 _ _ l1 t417 t420 _ ?side1 ?side2 ?side3 ?side4 A8.out).mono ?_); (case side1 => exact qC (Kd.C_below HR0.out HB.out)); (case side2 => exact HC0.out); (case side3 => exact qC (Kd.C_below HR1.out HB.out)); (case side4 => exact HC1.out); rintro e w10 ⟨v418, v421, rfl, ho0, ho1, hb⟩; refine ⟨_, rfl, ?_⟩; have n0_ := Aside0.mk (Kd.R_lower ho0 (below_size (qG GE414.out))); have n1_ := Aside0.mk (Kd.R_lower ho1 (below_size (qG GE414.out))); have n2_ := Aside0.mk (blk_below (g := gb414) (o := .cells #[.slice none 0 0, .slice none 0 0] 25 (0, 0)) (qK BK414.out) hb); have n3_ := Aside0.mk (below_step (qG GE414.out) hb); clear BK414; clear HB; have HO419 := n0_; have HO422 := n1_; have BK414 := n2_; have HB := n3_; clear n0_ n1_ n2_ n3_; (try clear hb); (try clear hb2); (try clear hk); (try clear hi); (try clear ho0); (try clear ho1); obtain ⟨Ao11, co11, eo11⟩ := Kd.R_slice HO419.out; subst eo11; have hcz12_0 : w10.cell? ⟨gb414, 0, none⟩ = some (.slice none 0 0) := (blk_cell BK414.out 0).trans rfl; have hcz12_1 : w10.cell? ⟨gb414, 1, none⟩ = some (.slice none 0 0) := (blk_cell BK414.out 1).trans rfl; have hfz12_0 := blk_frozen BK414.out 0; have hfz12_1 := blk_frozen BK414.out 1; obtain ⟨Ao13, co13, eo13⟩ := Kd.R_slice HO422.out; subst eo13))
    refine bodyPost_ret (results_ct rfl _ _ gb414 25 #[.slice Ao11 t417.length co11, .slice Ao13 t420.length co13] (0, 0) _ rfl (by (with_reducible repeat (first | refine blk_drewN ?_ _ | refine blk_drew ?_ | refine blk_alloc ?_ _)); refine blk_put (cs := #[.slice Ao11 t417.length co11, .slice none 0 0]) ?_ 1 _ rfl; (with_reducible repeat (first | refine blk_drewN ?_ _ | refine blk_drew ?_ | refine blk_alloc ?_ _)); refine blk_put (cs := #[.slice none 0 0, .slice none 0 0]) ?_ 0 _ rfl; (with_reducible repeat (first | refine blk_drewN ?_ _ | refine blk_drew ?_ | refine blk_alloc ?_ _)); exact BK414.out) Tryd.underlying25 rfl (by kernel_rfl)) rfl ?_
    exact ⟨_, _, by first | rfl | (simp [errW_none, errW_some] <;> rfl) | (simp [*, errW_none, errW_some] <;> rfl), by (with_reducible repeat (first | apply Kd.R_alloc | apply Kd.R_drewN | apply Kd.R_drew)); exact Kd.R_mono (Kd.R_far (p := ⟨gb414, 1, none⟩) (Kd.R_far (p := ⟨gb414, 0, none⟩) (Kd.R_types HO419.out BK414.out (by decide)) (fun _ hk => hk.2) (.slice Ao11 t417.length co11)) (fun _ hk => hk.2) (.slice Ao13 t420.length co13)) (fun _ hk => hk.1), by (with_reducible repeat (first | apply Kd.R_alloc | apply Kd.R_drewN | apply Kd.R_drew)); exact Kd.R_mono (Kd.R_far (p := ⟨gb414, 1, none⟩) (Kd.R_far (p := ⟨gb414, 0, none⟩) (Kd.R_types HO422.out BK414.out (by decide)) (fun _ hk => hk.2) (.slice Ao11 t417.length co11)) (fun _ hk => hk.2) (.slice Ao13 t420.length co13)) (fun _ hk => hk.1), by repeat (first | (with_reducible first | exact HB.out | apply below_alloc | apply pw_below_drewN | apply below_drew1 | refine below_set ?_ GE414.out) | exact HB.out)⟩
  ·replace c6 := Bool.eq_false_iff.mpr c6
   subst c6
   have H1 : (none) = some (r1, r2, r3) := by rw [if_neg (show ¬ (false = true) by decide)] at H; exact H
   clear H
   have H := H1
   clear H1
   exact absurd H (by simp)
 ·replace c4 := Bool.eq_false_iff.mpr c4
  subst c4
  have H1 : (none) = some (r1, r2, r3) := by rw [if_neg (show ¬ (false = true) by decide)] at H; exact H
  clear H
  have H := H1
  clear H1
  exact absurd H (by simp)

end Go.Proofs.YtamhiecepipnjaaDoor.GApproxNear
