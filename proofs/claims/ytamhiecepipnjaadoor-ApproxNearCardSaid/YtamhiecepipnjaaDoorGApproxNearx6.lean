-- Written by gprint (wip/gprint), this session's program over the kit's print. Not trusted: Lean checks it.
import Derived.Test.YtamhiecepipnjaaDoorGApproxNearx0
import Derived.Test.YtamhiecepipnjaaDoorGApproxNearx1
import Derived.Test.YtamhiecepipnjaaDoorGApproxNearx4
import Derived.Test.YtamhiecepipnjaaDoorGApproxNearx5
namespace Go.Proofs.YtamhiecepipnjaaDoor.GApproxNear
open Go.RowKit Go.Proofs.YtamhiecepipnjaaDoorW.PrintWords Go.Proofs.YtamhiecepipnjaaDoorW.PrintLast Go.Proofs.YtamhiecepipnjaaDoorW.PrintMore
attribute [local go_sem] max2_int min2_int max_two min_two max_three min_three max_four min_four   -- for this text's walks alone
set_option linter.unusedVariables false
set_option linter.unusedSimpArgs false

/-! ### nat_Sub: function 43 -/
def nat_Sub.f (k : Nat) (l0 : List Int) (l1 : List Int) : Option (List Int × Int) := (nat_Right.f l0).bind fun t276 => (if t276 = true then ((nat_Right.f l1).bind fun t277 => (if t277 = true then ((nat_order.f k l0 l1).bind fun t278 => (if t278 < 0 then (some (([] : List Int), 1)) else ((nat_less.f k l0 l1).bind fun t279 => (some (t279, 0))))) else (none))) else (none))
theorem nat_Sub.mono : ∀ a0 a1 k, LeO (nat_Sub.f k a0 a1) (nat_Sub.f (k + 1) a0 a1) := by
 intro a0 a1 k
 unfold nat_Sub.f
 repeat' first
   | (with_reducible exact nat_less.mono _ _ _)
   | (with_reducible exact nat_order.mono _ _ _)
   | (with_reducible exact LeO.refl _)
   | (with_reducible exact LeO.none _)
   | (with_reducible refine LeO.ite ?_ ?_)
   | (with_reducible refine LeO.bind ?_ (fun _ => ?_))
   | exact nat_less.mono _ _ _
   | exact nat_order.mono _ _ _
   | exact LeO.none _
   | refine LeO.ite ?_ ?_
   | refine LeO.bind ?_ (fun _ => ?_)
set_option maxHeartbeats 8000000 in
set_option maxRecDepth 100000 in
theorem nat_Sub.calls (k : Nat) (A0 : Option Addr) (c0 : Nat) (l0 : List Int) (A1 : Option Addr) (c1 : Nat) (l1 : List Int) (r1 : List Int) (r2 : Int) (w : World) (hr0 : Kd.C (Kd.int .u32) w A0 l0.length l0) (hc0 : l0.length ≤ c0) (hr1 : Kd.C (Kd.int .u32) w A1 l1.length l1) (hc1 : l1.length ≤ c1) (h : nat_Sub.f k l0 l1 = some (r1, r2)) :
  Calls Tryd.prog 43 #[.slice A0 l0.length c0, .slice A1 l1.length c1] w fun e w' => ∃ v0_ : Value, e = .returned (.tuple #[v0_, .int .i64 r2]) ∧ Kd.R (Kd.int .u32) 47 w' w.heap.size (fun _ => True) v0_ r1 ∧ Below w.heap.size w w' := by
 have HR0 := Aside0.mk hr0
 have HC0 := Aside0.mk hc0
 clear hr0 hc0
 have HR1 := Aside0.mk hr1
 have HC1 := Aside0.mk hc1
 clear hr1 hc1
 have HB := Aside0.mk (Below.refl w.heap.size w)
 have H : ((nat_Right.f l0).bind fun t276 => (if t276 = true then ((nat_Right.f l1).bind fun t277 => (if t277 = true then ((nat_order.f k l0 l1).bind fun t278 => (if t278 < 0 then (some (([] : List Int), 1)) else ((nat_less.f k l0 l1).bind fun t279 => (some (t279, 0))))) else (none))) else (none))) = some (r1, r2) := h
 clear h
 obtain ⟨t276, A30, H⟩ := Option.bind_eq_some_iff.mp H
 try dsimp only at H
 have A3 := Aside0.mk A30
 clear A30
 by_cases c4 : t276 = true
 ·subst c4
  have H1 : ((nat_Right.f l1).bind fun t277 => (if t277 = true then ((nat_order.f k l0 l1).bind fun t278 => (if t278 < 0 then (some (([] : List Int), 1)) else ((nat_less.f k l0 l1).bind fun t279 => (some (t279, 0))))) else (none))) = some (r1, r2) := by rw [if_pos rfl] at H; exact H
  clear H
  have H := H1
  clear H1
  obtain ⟨t277, A50, H⟩ := Option.bind_eq_some_iff.mp H
  try dsimp only at H
  have A5 := Aside0.mk A50
  clear A50
  by_cases c6 : t277 = true
  ·subst c6
   have H1 : ((nat_order.f k l0 l1).bind fun t278 => (if t278 < 0 then (some (([] : List Int), 1)) else ((nat_less.f k l0 l1).bind fun t279 => (some (t279, 0))))) = some (r1, r2) := by rw [if_pos rfl] at H; exact H
   clear H
   have H := H1
   clear H1
   obtain ⟨t278, A70, H⟩ := Option.bind_eq_some_iff.mp H
   try dsimp only at H
   have A7 := Aside0.mk A70
   clear A70
   by_cases c8 : t278 < 0
   ·rw [if_pos c8] at H
    have c8b0 : decide (t278 < 0) = true := decide_eq_true c8
    clear c8
    simp only [Option.some.injEq, Prod.mk.injEq] at H
    obtain ⟨rfl, rfl⟩ := H
    go_enter Tryd.func43, Tryd.ntmps43
    go_wp2_with (first | ((with_reducible refine gate_callee (f := 44) rfl ?_); refine goesL_ (some 7) rfl rfl Tryd.func44 (by kernel_rfl) rfl #[.slice A0 l0.length c0] rfl qL ?_; (with_reducible refine (nat_Right.calls _ _ l0 true _ ?side1 ?side2 A3.out).mono ?_); (case side1 => exact qC HR0.out); (case side2 => exact HC0.out); rintro e w' ⟨rfl, ⟨nd, rfl⟩⟩; refine ⟨_, rfl, ?_⟩) | (go_at_call 44; (with_reducible refine (nat_Right.calls _ _ l1 true _ ?side1 ?side2 A5.out).mono ?_); (case side1 => exact qC HR1.out); (case side2 => exact HC1.out); rintro e w' ⟨rfl, ⟨nd, rfl⟩⟩) | (go_at_call 47; (with_reducible refine (nat_order.calls k _ _ l0 _ _ l1 t278 _ ?side1 ?side2 ?side3 ?side4 A7.out).mono ?_); (case side1 => exact qC HR0.out); (case side2 => exact HC0.out); (case side3 => exact qC HR1.out); (case side4 => exact HC1.out); rintro e w9 ⟨rfl, hb⟩; have n0_ := Aside0.mk (below_step qB hb); clear HB; have HB := n0_; clear n0_; (try clear hb); (try clear hb2); (try clear hk); (try clear hi)))
    go_ret2
    exact ⟨_, by first | rfl | (simp [errW_none, errW_some] <;> rfl) | (simp [*, errW_none, errW_some] <;> rfl), by first | exact Kd.R_nil _ _ _ _ _ | exact Kd.N_nil _ _ _ _ _ | exact Kd.V_nil _ _ _ _ _ | exact Kd.Q_nil _ _ _ _ _ | exact Kd.S_nil _ _ _ _ _, qB⟩
   ·rw [if_neg c8] at H
    have c8b0 : decide (t278 < 0) = false := decide_eq_false c8
    clear c8
    obtain ⟨t279, A100, H⟩ := Option.bind_eq_some_iff.mp H
    try dsimp only at H
    have A10 := Aside0.mk A100
    clear A100
    simp only [Option.some.injEq, Prod.mk.injEq] at H
    obtain ⟨rfl, rfl⟩ := H
    go_enter Tryd.func43, Tryd.ntmps43
    go_wp2_with (first | ((with_reducible refine gate_callee (f := 44) rfl ?_); refine goesL_ (some 7) rfl rfl Tryd.func44 (by kernel_rfl) rfl #[.slice A0 l0.length c0] rfl qL ?_; (with_reducible refine (nat_Right.calls _ _ l0 true _ ?side1 ?side2 A3.out).mono ?_); (case side1 => exact qC HR0.out); (case side2 => exact HC0.out); rintro e w' ⟨rfl, ⟨nd, rfl⟩⟩; refine ⟨_, rfl, ?_⟩) | (go_at_call 44; (with_reducible refine (nat_Right.calls _ _ l1 true _ ?side1 ?side2 A5.out).mono ?_); (case side1 => exact qC HR1.out); (case side2 => exact HC1.out); rintro e w' ⟨rfl, ⟨nd, rfl⟩⟩) | (go_at_call 47; (with_reducible refine (nat_order.calls k _ _ l0 _ _ l1 t278 _ ?side1 ?side2 ?side3 ?side4 A7.out).mono ?_); (case side1 => exact qC HR0.out); (case side2 => exact HC0.out); (case side3 => exact qC HR1.out); (case side4 => exact HC1.out); rintro e w11 ⟨rfl, hb⟩; have n0_ := Aside0.mk (below_step qB hb); clear HB; have HB := n0_; clear n0_; (try clear hb); (try clear hb2); (try clear hk); (try clear hi)) | ((with_reducible refine gate_callee (f := 63) rfl ?_); refine goesL_ (some 22) rfl rfl Tryd.func63 (by kernel_rfl) rfl #[.slice A0 l0.length c0, .slice A1 l1.length c1] rfl qL ?_; (with_reducible refine (nat_less.calls k _ _ l0 _ _ l1 t279 _ ?side1 ?side2 ?side3 ?side4 A10.out).mono ?_); (case side1 => exact qC (Kd.C_below HR0.out HB.out)); (case side2 => exact HC0.out); (case side3 => exact qC (Kd.C_below HR1.out HB.out)); (case side4 => exact HC1.out); rintro e w12 ⟨v280, rfl, ho0, hb⟩; refine ⟨_, rfl, ?_⟩; have n0_ := Aside0.mk (Kd.R_lower ho0 (below_size qB)); have n1_ := Aside0.mk (below_step qB hb); clear HB; have HO281 := n0_; have HB := n1_; clear n0_ n1_; (try clear hb); (try clear hb2); (try clear hk); (try clear hi); (try clear ho0)))
    go_ret2
    exact ⟨_, by first | rfl | (simp [errW_none, errW_some] <;> rfl) | (simp [*, errW_none, errW_some] <;> rfl), by (with_reducible repeat (first | apply Kd.R_alloc | apply Kd.R_drewN | apply Kd.R_drew)); exact HO281.out, qB⟩
  ·replace c6 := Bool.eq_false_iff.mpr c6
   subst c6
   have H1 : (none) = some (r1, r2) := by rw [if_neg (show ¬ (false = true) by decide)] at H; exact H
   clear H
   have H := H1
   clear H1
   exact absurd H (by simp)
 ·replace c4 := Bool.eq_false_iff.mpr c4
  subst c4
  have H1 : (none) = some (r1, r2) := by rw [if_neg (show ¬ (false = true) by decide)] at H; exact H
  clear H
  have H := H1
  clear H1
  exact absurd H (by simp)

/-! ### approx_next: function 54 -/
def approx_next.f (k : Nat) (l0 : List Int) (l1 : List Int) : Option (List Int × Int) := (nat_Sub.f k l1 l0).bind fun bt282 => ((nat_Cmp.f k l0 bt282.1).bind fun t286 => (if t286 ≥ 0 then ((nat_Sub.f k l0 bt282.1).bind fun bt287 => (some (bt287.1, 1))) else ((nat_Add.f k l0 l0).bind fun bt291 => (some (bt291.1, 0)))))
theorem approx_next.mono : ∀ a0 a1 k, LeO (approx_next.f k a0 a1) (approx_next.f (k + 1) a0 a1) := by
 intro a0 a1 k
 unfold approx_next.f
 repeat' first
   | (with_reducible exact nat_Add.mono _ _ _)
   | (with_reducible exact nat_Cmp.mono _ _ _)
   | (with_reducible exact nat_Sub.mono _ _ _)
   | (with_reducible exact LeO.refl _)
   | (with_reducible exact LeO.none _)
   | (with_reducible refine LeO.ite ?_ ?_)
   | (with_reducible refine LeO.bind ?_ (fun _ => ?_))
   | exact nat_Add.mono _ _ _
   | exact nat_Cmp.mono _ _ _
   | exact nat_Sub.mono _ _ _
   | exact LeO.none _
   | refine LeO.ite ?_ ?_
   | refine LeO.bind ?_ (fun _ => ?_)
set_option maxHeartbeats 8000000 in
set_option maxRecDepth 100000 in
theorem approx_next.calls (k : Nat) (A0 : Option Addr) (c0 : Nat) (l0 : List Int) (A1 : Option Addr) (c1 : Nat) (l1 : List Int) (r1 : List Int) (r2 : Int) (w : World) (hr0 : Kd.C (Kd.int .u32) w A0 l0.length l0) (hc0 : l0.length ≤ c0) (hr1 : Kd.C (Kd.int .u32) w A1 l1.length l1) (hc1 : l1.length ≤ c1) (h : approx_next.f k l0 l1 = some (r1, r2)) :
  Calls Tryd.prog 54 #[.slice A0 l0.length c0, .slice A1 l1.length c1] w fun e w' => ∃ v0_ : Value, e = .returned (.tuple #[v0_, .int .u64 r2]) ∧ Kd.R (Kd.int .u32) 47 w' w.heap.size (fun _ => True) v0_ r1 ∧ Below w.heap.size w w' := by
 have HR0 := Aside0.mk hr0
 have HC0 := Aside0.mk hc0
 clear hr0 hc0
 have HR1 := Aside0.mk hr1
 have HC1 := Aside0.mk hc1
 clear hr1 hc1
 have HB := Aside0.mk (Below.refl w.heap.size w)
 have H : ((nat_Sub.f k l1 l0).bind fun bt282 => ((nat_Cmp.f k l0 bt282.1).bind fun t286 => (if t286 ≥ 0 then ((nat_Sub.f k l0 bt282.1).bind fun bt287 => (some (bt287.1, 1))) else ((nat_Add.f k l0 l0).bind fun bt291 => (some (bt291.1, 0)))))) = some (r1, r2) := h
 clear h
 obtain ⟨⟨t282, t283⟩, A30, H⟩ := Option.bind_eq_some_iff.mp H
 try dsimp only at H
 have A3 := Aside0.mk A30
 clear A30
 obtain ⟨t286, A40, H⟩ := Option.bind_eq_some_iff.mp H
 try dsimp only at H
 have A4 := Aside0.mk A40
 clear A40
 by_cases c5 : t286 ≥ 0
 ·rw [if_pos c5] at H
  have c5b0 : decide (0 ≤ t286) = true := decide_eq_true c5
  clear c5
  obtain ⟨⟨t287, t288⟩, A60, H⟩ := Option.bind_eq_some_iff.mp H
  try dsimp only at H
  have A6 := Aside0.mk A60
  clear A60
  simp only [Option.some.injEq, Prod.mk.injEq] at H
  obtain ⟨rfl, rfl⟩ := H
  go_enter Tryd.func54, Tryd.ntmps54
  go_wp2_with (first | ((with_reducible refine gate_callee (f := 43) rfl ?_); refine goesL_ (some 11) rfl rfl Tryd.func43 (by kernel_rfl) rfl #[.slice A1 l1.length c1, .slice A0 l0.length c0] rfl qL ?_; (with_reducible refine (nat_Sub.calls k _ _ l1 _ _ l0 t282 t283 _ ?side1 ?side2 ?side3 ?side4 A3.out).mono ?_); (case side1 => exact qC HR1.out); (case side2 => exact HC1.out); (case side3 => exact qC HR0.out); (case side4 => exact HC0.out); rintro e w7 ⟨v284, rfl, ho0, hb⟩; refine ⟨_, rfl, ?_⟩; have n0_ := Aside0.mk (Kd.R_lower ho0 (below_size qB)); have n1_ := Aside0.mk (below_step qB hb); clear HB; have HO285 := n0_; have HB := n1_; clear n0_ n1_; (try clear hb); (try clear hb2); (try clear hk); (try clear hi); (try clear ho0); obtain ⟨Ao8, co8, eo8⟩ := Kd.R_slice HO285.out; subst eo8) | ((with_reducible refine gate_callee (f := 19) rfl ?_); refine goesL_ (some 16) rfl rfl Tryd.func19 (by kernel_rfl) rfl #[.slice A0 l0.length c0, .slice Ao8 t282.length co8] rfl qL ?_; (with_reducible refine (nat_Cmp.calls k _ _ l0 _ _ t282 t286 _ ?side1 ?side2 ?side3 ?side4 A4.out).mono ?_); (case side1 => exact qC (Kd.C_below HR0.out HB.out)); (case side2 => exact HC0.out); (case side3 => exact qC (Kd.R_reads' HO285.out).2.2); (case side4 => exact (Kd.R_reads' HO285.out).2.1); rintro e w9 ⟨rfl, hb⟩; refine ⟨_, rfl, ?_⟩; have n0_ := Aside0.mk (Kd.R_below (qR HO285.out) hb); have n1_ := Aside0.mk (below_step qB hb); clear HO285; clear HB; have HO285 := n0_; have HB := n1_; clear n0_ n1_; (try clear hb); (try clear hb2); (try clear hk); (try clear hi)) | ((with_reducible refine gate_callee (f := 43) rfl ?_); refine goesL_ (some 21) rfl rfl Tryd.func43 (by kernel_rfl) rfl #[.slice A0 l0.length c0, .slice Ao8 t282.length co8] rfl qL ?_; (with_reducible refine (nat_Sub.calls k _ _ l0 _ _ t282 t287 t288 _ ?side1 ?side2 ?side3 ?side4 A6.out).mono ?_); (case side1 => exact qC (Kd.C_below HR0.out HB.out)); (case side2 => exact HC0.out); (case side3 => exact qC (Kd.R_reads' HO285.out).2.2); (case side4 => exact (Kd.R_reads' HO285.out).2.1); rintro e w10 ⟨v289, rfl, ho0, hb⟩; refine ⟨_, rfl, ?_⟩; have n0_ := Aside0.mk (Kd.R_elder' (qR HO285.out) (Kd.R_base ho0) hb); have n1_ := Aside0.mk (Kd.R_lower (Kd.R_new' ho0 (Kd.R_lt (qR HO285.out))) (below_size qB)); have n2_ := Aside0.mk (below_step qB hb); clear HO285; clear HB; have HO285 := n0_; have HO290 := n1_; have HB := n2_; clear n0_ n1_ n2_; (try clear hb); (try clear hb2); (try clear hk); (try clear hi); (try clear ho0)))
  go_ret2
  exact ⟨_, by first | rfl | (simp [errW_none, errW_some] <;> rfl) | (simp [*, errW_none, errW_some] <;> rfl), by (with_reducible repeat (first | apply Kd.R_alloc | apply Kd.R_drewN | apply Kd.R_drew)); exact Kd.R_mono HO290.out (fun _ hk => trivial), qB⟩
 ·rw [if_neg c5] at H
  have c5b0 : decide (0 ≤ t286) = false := decide_eq_false c5
  clear c5
  obtain ⟨⟨t291, t292⟩, A110, H⟩ := Option.bind_eq_some_iff.mp H
  try dsimp only at H
  have A11 := Aside0.mk A110
  clear A110
  simp only [Option.some.injEq, Prod.mk.injEq] at H
  obtain ⟨rfl, rfl⟩ := H
  go_enter Tryd.func54, Tryd.ntmps54
  go_wp2_with (first | ((with_reducible refine gate_callee (f := 43) rfl ?_); refine goesL_ (some 11) rfl rfl Tryd.func43 (by kernel_rfl) rfl #[.slice A1 l1.length c1, .slice A0 l0.length c0] rfl qL ?_; (with_reducible refine (nat_Sub.calls k _ _ l1 _ _ l0 t282 t283 _ ?side1 ?side2 ?side3 ?side4 A3.out).mono ?_); (case side1 => exact qC HR1.out); (case side2 => exact HC1.out); (case side3 => exact qC HR0.out); (case side4 => exact HC0.out); rintro e w12 ⟨v284, rfl, ho0, hb⟩; refine ⟨_, rfl, ?_⟩; have n0_ := Aside0.mk (Kd.R_lower ho0 (below_size qB)); have n1_ := Aside0.mk (below_step qB hb); clear HB; have HO285 := n0_; have HB := n1_; clear n0_ n1_; (try clear hb); (try clear hb2); (try clear hk); (try clear hi); (try clear ho0); obtain ⟨Ao13, co13, eo13⟩ := Kd.R_slice HO285.out; subst eo13) | ((with_reducible refine gate_callee (f := 19) rfl ?_); refine goesL_ (some 16) rfl rfl Tryd.func19 (by kernel_rfl) rfl #[.slice A0 l0.length c0, .slice Ao13 t282.length co13] rfl qL ?_; (with_reducible refine (nat_Cmp.calls k _ _ l0 _ _ t282 t286 _ ?side1 ?side2 ?side3 ?side4 A4.out).mono ?_); (case side1 => exact qC (Kd.C_below HR0.out HB.out)); (case side2 => exact HC0.out); (case side3 => exact qC (Kd.R_reads' HO285.out).2.2); (case side4 => exact (Kd.R_reads' HO285.out).2.1); rintro e w14 ⟨rfl, hb⟩; refine ⟨_, rfl, ?_⟩; have n0_ := Aside0.mk (Kd.R_below (qR HO285.out) hb); have n1_ := Aside0.mk (below_step qB hb); clear HO285; clear HB; have HO285 := n0_; have HB := n1_; clear n0_ n1_; (try clear hb); (try clear hb2); (try clear hk); (try clear hi)) | ((with_reducible refine gate_callee (f := 24) rfl ?_); refine goesL_ (some 28) rfl rfl Tryd.func24 (by kernel_rfl) rfl #[.slice A0 l0.length c0, .slice A0 l0.length c0] rfl qL ?_; (with_reducible refine (nat_Add.calls k _ _ l0 _ _ l0 t291 t292 _ ?side1 ?side2 ?side3 ?side4 A11.out).mono ?_); (case side1 => exact qC (Kd.C_below HR0.out HB.out)); (case side2 => exact HC0.out); (case side3 => exact qC (Kd.C_below HR0.out HB.out)); (case side4 => exact HC0.out); rintro e w15 ⟨v293, rfl, ho0, hb⟩; refine ⟨_, rfl, ?_⟩; have n0_ := Aside0.mk (Kd.R_elder' (qR HO285.out) (Kd.R_base ho0) hb); have n1_ := Aside0.mk (Kd.R_lower (Kd.R_new' ho0 (Kd.R_lt (qR HO285.out))) (below_size qB)); have n2_ := Aside0.mk (below_step qB hb); clear HO285; clear HB; have HO285 := n0_; have HO294 := n1_; have HB := n2_; clear n0_ n1_ n2_; (try clear hb); (try clear hb2); (try clear hk); (try clear hi); (try clear ho0)))
  go_ret2
  exact ⟨_, by first | rfl | (simp [errW_none, errW_some] <;> rfl) | (simp [*, errW_none, errW_some] <;> rfl), by (with_reducible repeat (first | apply Kd.R_alloc | apply Kd.R_drewN | apply Kd.R_drew)); exact Kd.R_mono HO294.out (fun _ hk => trivial), qB⟩

/-! ### approx_half: function 55 -/
def approx_half.f (k : Nat) (l0 : List Int) (l1 : List Int) : Option (Int) := (nat_Sub.f k l1 l0).bind fun bt295 => ((nat_Cmp.f k l0 bt295.1).bind fun t299 => (some t299))
theorem approx_half.mono : ∀ a0 a1 k, LeO (approx_half.f k a0 a1) (approx_half.f (k + 1) a0 a1) := by
 intro a0 a1 k
 unfold approx_half.f
 repeat' first
   | (with_reducible exact nat_Cmp.mono _ _ _)
   | (with_reducible exact nat_Sub.mono _ _ _)
   | (with_reducible exact LeO.refl _)
   | (with_reducible exact LeO.none _)
   | (with_reducible refine LeO.ite ?_ ?_)
   | (with_reducible refine LeO.bind ?_ (fun _ => ?_))
   | exact nat_Cmp.mono _ _ _
   | exact nat_Sub.mono _ _ _
   | exact LeO.none _
   | refine LeO.ite ?_ ?_
   | refine LeO.bind ?_ (fun _ => ?_)
set_option maxHeartbeats 8000000 in
set_option maxRecDepth 100000 in
theorem approx_half.calls (k : Nat) (A0 : Option Addr) (c0 : Nat) (l0 : List Int) (A1 : Option Addr) (c1 : Nat) (l1 : List Int) (r : Int) (w : World) (hr0 : Kd.C (Kd.int .u32) w A0 l0.length l0) (hc0 : l0.length ≤ c0) (hr1 : Kd.C (Kd.int .u32) w A1 l1.length l1) (hc1 : l1.length ≤ c1) (h : approx_half.f k l0 l1 = some r) :
  Calls Tryd.prog 55 #[.slice A0 l0.length c0, .slice A1 l1.length c1] w fun e w' => e = .returned (.int .i64 r) ∧ Below w.heap.size w w' := by
 have HR0 := Aside0.mk hr0
 have HC0 := Aside0.mk hc0
 clear hr0 hc0
 have HR1 := Aside0.mk hr1
 have HC1 := Aside0.mk hc1
 clear hr1 hc1
 have HB := Aside0.mk (Below.refl w.heap.size w)
 have H : ((nat_Sub.f k l1 l0).bind fun bt295 => ((nat_Cmp.f k l0 bt295.1).bind fun t299 => (some t299))) = some r := h
 clear h
 obtain ⟨⟨t295, t296⟩, A30, H⟩ := Option.bind_eq_some_iff.mp H
 try dsimp only at H
 have A3 := Aside0.mk A30
 clear A30
 obtain ⟨t299, A40, H⟩ := Option.bind_eq_some_iff.mp H
 try dsimp only at H
 have A4 := Aside0.mk A40
 clear A40
 obtain rfl := Option.some.inj H
 go_enter Tryd.func55, Tryd.ntmps55
 go_wp2_with (first | ((with_reducible refine gate_callee (f := 43) rfl ?_); refine goesL_ (some 10) rfl rfl Tryd.func43 (by kernel_rfl) rfl #[.slice A1 l1.length c1, .slice A0 l0.length c0] rfl qL ?_; (with_reducible refine (nat_Sub.calls k _ _ l1 _ _ l0 t295 t296 _ ?side1 ?side2 ?side3 ?side4 A3.out).mono ?_); (case side1 => exact qC HR1.out); (case side2 => exact HC1.out); (case side3 => exact qC HR0.out); (case side4 => exact HC0.out); rintro e w5 ⟨v297, rfl, ho0, hb⟩; refine ⟨_, rfl, ?_⟩; have n0_ := Aside0.mk (Kd.R_lower ho0 (below_size qB)); have n1_ := Aside0.mk (below_step qB hb); clear HB; have HO298 := n0_; have HB := n1_; clear n0_ n1_; (try clear hb); (try clear hb2); (try clear hk); (try clear hi); (try clear ho0); obtain ⟨Ao6, co6, eo6⟩ := Kd.R_slice HO298.out; subst eo6) | ((with_reducible refine gate_callee (f := 19) rfl ?_); refine goesL_ (some 15) rfl rfl Tryd.func19 (by kernel_rfl) rfl #[.slice A0 l0.length c0, .slice Ao6 t295.length co6] rfl qL ?_; (with_reducible refine (nat_Cmp.calls k _ _ l0 _ _ t295 t299 _ ?side1 ?side2 ?side3 ?side4 A4.out).mono ?_); (case side1 => exact qC (Kd.C_below HR0.out HB.out)); (case side2 => exact HC0.out); (case side3 => exact qC (Kd.R_reads' HO298.out).2.2); (case side4 => exact (Kd.R_reads' HO298.out).2.1); rintro e w7 ⟨rfl, hb⟩; refine ⟨_, rfl, ?_⟩; have n0_ := Aside0.mk (Kd.R_below (qR HO298.out) hb); have n1_ := Aside0.mk (below_step qB hb); clear HO298; clear HB; have HO298 := n0_; have HB := n1_; clear n0_ n1_; (try clear hb); (try clear hb2); (try clear hk); (try clear hi)))
 go_ret
 exact ⟨by first | rfl | (simp [errW_none, errW_some] <;> rfl) | (simp [*, errW_none, errW_some] <;> rfl), qB⟩

/-! ### approx_below: function 27 -/
def approx_below.l0 : Nat → List Int → List Int → Int → Int → Option (Int × Int × Int)
 | 0, _, _, _, _ => none
 | k + 1, x1, x2, x9, x10 => if x9 < 4503599627370496 then (if x10 > (-1074) then ((approx_next.f k x1 x2).bind fun bt301 => (approx_below.l0 k bt301.1 x2 (Go.bits .or .u64 (IntKind.u64.wrap (x9 * 2)) bt301.2) (wrap64 (x10 - 1)))) else ((approx_half.f k x1 x2).bind fun t305 => (some (x9, x10, t305)))) else ((approx_half.f k x1 x2).bind fun t306 => (some (x9, x10, t306)))
def approx_below.f (k : Nat) (l0 : List Int) (l1 : List Int) (l2 : List Int) : Option (Int × Int × Int) := (approx_number.f k l0).bind fun t300 => (approx_below.l0 k l1 l2 t300 0)
theorem approx_below.mono_l : ∀ k, (∀ y0 y1 y2 y3, LeO (approx_below.l0 k y0 y1 y2 y3) (approx_below.l0 (k + 1) y0 y1 y2 y3))
 | 0 => fun _ _ _ _ r h => by simp [approx_below.l0] at h
 | k + 1 => by
  have ih0 := approx_below.mono_l k
  ·intro y0 y1 y2 y3
   unfold approx_below.l0
   repeat' first
   | (with_reducible exact ih0 _ _ _ _)
   | (with_reducible exact approx_half.mono _ _ _)
   | (with_reducible exact approx_next.mono _ _ _)
   | (with_reducible exact approx_number.mono _ _)
   | (with_reducible exact LeO.refl _)
   | (with_reducible exact LeO.none _)
   | (with_reducible refine LeO.ite ?_ ?_)
   | (with_reducible refine LeO.bind ?_ (fun _ => ?_))
   | exact ih0 _ _ _ _
   | exact approx_half.mono _ _ _
   | exact approx_next.mono _ _ _
   | exact approx_number.mono _ _
   | exact LeO.none _
   | refine LeO.ite ?_ ?_
   | refine LeO.bind ?_ (fun _ => ?_)
theorem approx_below.mono : ∀ a0 a1 a2 k, LeO (approx_below.f k a0 a1 a2) (approx_below.f (k + 1) a0 a1 a2) := by
 intro a0 a1 a2 k
 have ih0 := approx_below.mono_l k
 unfold approx_below.f
 repeat' first
   | (with_reducible exact ih0 _ _ _ _)
   | (with_reducible exact approx_half.mono _ _ _)
   | (with_reducible exact approx_next.mono _ _ _)
   | (with_reducible exact approx_number.mono _ _)
   | (with_reducible exact LeO.refl _)
   | (with_reducible exact LeO.none _)
   | (with_reducible refine LeO.ite ?_ ?_)
   | (with_reducible refine LeO.bind ?_ (fun _ => ?_))
   | exact ih0 _ _ _ _
   | exact approx_half.mono _ _ _
   | exact approx_next.mono _ _ _
   | exact approx_number.mono _ _
   | exact LeO.none _
   | refine LeO.ite ?_ ?_
   | refine LeO.bind ?_ (fun _ => ?_)
set_option maxHeartbeats 8000000 in
set_option maxRecDepth 100000 in
theorem approx_below.calls (k : Nat) (A0 : Option Addr) (c0 : Nat) (l0 : List Int) (P1_ : Nat → Prop) (A1 : Option Addr) (c1 : Nat) (l1 : List Int) (A2 : Option Addr) (c2 : Nat) (l2 : List Int) (r1 : Int) (r2 : Int) (r3 : Int) (w : World) (hr0 : Kd.C (Kd.int .u32) w A0 l0.length l0) (hc0 : l0.length ≤ c0) (hs1 : Kd.V (Kd.int .u32) 47 w w.heap.size (fun k_ => P1_ k_) (.slice A1 l1.length c1) l1) (hr2 : Kd.C (Kd.int .u32) w A2 l2.length l2) (hc2 : l2.length ≤ c2) (h : approx_below.f k l0 l1 l2 = some (r1, r2, r3)) :
  Calls Tryd.prog 27 #[.slice A0 l0.length c0, .slice A1 l1.length c1, .slice A2 l2.length c2] w fun e w' => e = .returned (.tuple #[.int .u64 r1, .int .i64 r2, .int .i64 r3]) ∧ Below w.heap.size w w' := by
 have HR0 := Aside0.mk hr0
 have HC0 := Aside0.mk hc0
 clear hr0 hc0
 have HO1 := Aside0.mk (show Kd.V (Kd.int .u32) 47 w w.heap.size (fun k_ => (P1_ k_ ∨ w.heap.size ≤ k_)) (.slice A1 l1.length c1) l1 from Kd.V_mono hs1 (fun k_ hk => .inl hk))
 have HR2 := Aside0.mk hr2
 have HC2 := Aside0.mk hc2
 clear hr2 hc2
 have HB := Aside0.mk (Below.refl w.heap.size w)
 have H : ((approx_number.f k l0).bind fun t300 => (approx_below.l0 k l1 l2 t300 0)) = some (r1, r2, r3) := h
 clear h
 obtain ⟨t300, A40, H⟩ := Option.bind_eq_some_iff.mp H
 try dsimp only at H
 have A4 := Aside0.mk A40
 clear A40
 have H' := Aside0.mk H
 clear H
 go_enter Tryd.func27, Tryd.ntmps27
 go_wp2_with (first | ((with_reducible refine gate_callee (f := 53) rfl ?_); refine goesL_ (some 13) rfl rfl Tryd.func53 (by kernel_rfl) rfl #[.slice A0 l0.length c0] rfl qL ?_; (with_reducible refine (approx_number.calls k _ _ l0 t300 _ ?side1 ?side2 A4.out).mono ?_); (case side1 => exact qC HR0.out); (case side2 => exact HC0.out); rintro e w' ⟨rfl, ⟨nd, rfl⟩⟩; refine ⟨_, rfl, ?_⟩))
 go_loopg [1, 9, 10] k (fun kq v1 v9 v10 w' => ∃ (x1_1 : List Int) (x9_1 : Int) (x10_1 : Int), v9 = .int .u64 x9_1 ∧ v10 = .int .i64 x10_1 ∧ Aside0 (approx_below.l0 kq x1_1 l2 x9_1 x10_1 = some (r1, r2, r3)) ∧ Aside0 (kq ≤ k) ∧ Aside0 (Kd.V (Kd.int .u32) 47 w' w.heap.size (fun k_ => (P1_ k_ ∨ w.heap.size ≤ k_)) v1 x1_1) ∧ Aside0 (Below w.heap.size w w'))
 case atStart => exact ⟨(l1), (t300), (0), (by first | rfl | (simp; done) | (simp [*]; done)), (by first | rfl | (simp; done) | (simp [*]; done)), H', ⟨Nat.le_refl _⟩, ⟨by (with_reducible repeat (first | apply Kd.V_alloc | apply Kd.V_drewN | apply Kd.V_drew)); exact HO1.out⟩, ⟨qB⟩⟩
 case round =>
  clear H'
  try clear c1
  try clear c2
  try clear p2
  obtain ⟨x1_1, x9_1, x10_1, rfl, rfl, HA, HK1, HO_1, HB⟩ := hrel
  cases gk with
  | zero => exact absurd HA.out (by simp [approx_below.l0])
  | succ k1 =>
   have H := HA.out
   clear HA
   simp only [approx_below.l0] at H
   by_cases c5 : x9_1 < 4503599627370496
   ·rw [if_pos c5] at H
    have c5b0 : decide (x9_1 < 4503599627370496) = true := decide_eq_true c5
    clear c5
    by_cases c6 : x10_1 > (-1074)
    ·rw [if_pos c6] at H
     have c6b0 : decide ((-1074) < x10_1) = true := decide_eq_true c6
     clear c6
     obtain ⟨⟨t301, t302⟩, A70, H⟩ := Option.bind_eq_some_iff.mp H
     try dsimp only at H
     have A7 := Aside0.mk A70
     clear A70
     have H' := Aside0.mk H
     clear H
     obtain ⟨Ao8, co8, eo8⟩ := Kd.V_slice HO_1.out
     subst eo8
     go_wp2_with (first | ((with_reducible refine gate_callee (f := 54) rfl ?_); refine goesL_ (some 23) rfl rfl Tryd.func54 (by kernel_rfl) rfl #[.slice Ao8 x1_1.length co8, .slice A2 l2.length c2] rfl qL ?_; (with_reducible refine (approx_next.calls k1 _ _ x1_1 _ _ l2 t301 t302 _ ?side1 ?side2 ?side3 ?side4 A7.out).mono ?_); (case side1 => exact qC (Kd.V_reads' HO_1.out).2.2); (case side2 => exact (Kd.V_reads' HO_1.out).2.1); (case side3 => exact qC (Kd.C_below HR2.out HB.out)); (case side4 => exact HC2.out); rintro e w9 ⟨v303, rfl, ho0, hb⟩; refine ⟨_, rfl, ?_⟩; have n0_ := Aside0.mk (Kd.V_elder' (qV HO_1.out) (Kd.R_base ho0) hb); have n1_ := Aside0.mk (Kd.R_lower (Kd.R_newM (M := fun k_ => (w.heap.size ≤ k_)) ho0 (below_size qB) (fun k_ h_ => h_)) (below_size qB)); have n2_ := Aside0.mk (below_step qB hb); clear HO_1; clear HB; have HO_1 := n0_; have HO304 := n1_; have HB := n2_; clear n0_ n1_ n2_; (try clear hb); (try clear hb2); (try clear hk); (try clear hi); (try clear ho0)))
     go_roundg k1
     case measure => have := HK1.out; omega
     case rel => exact ⟨(t301), (Go.bits .or .u64 (IntKind.u64.wrap (x9_1 * 2)) t302), (wrap64 (x10_1 - 1)), (by first | rfl | (simp; done) | (simp [*]; done)), (by first | rfl | (simp; done) | (simp [*]; done)), H', ⟨by have := HK1.out; omega⟩, ⟨Kd.V_mono (Kd.R_V (by (with_reducible repeat (first | apply Kd.R_alloc | apply Kd.R_drewN | apply Kd.R_drew)); exact Kd.R_mono HO304.out (fun _ hk => hk.1))) (fun k_ hk => by first | exact ⟨(.inr (hk.1)), hk.2⟩ | exact (.inr (hk)))⟩, ⟨qB⟩⟩
    ·rw [if_neg c6] at H
     have c6b0 : decide ((-1074) < x10_1) = false := decide_eq_false c6
     clear c6
     obtain ⟨t305, A100, H⟩ := Option.bind_eq_some_iff.mp H
     try dsimp only at H
     have A10 := Aside0.mk A100
     clear A100
     simp only [Option.some.injEq, Prod.mk.injEq] at H
     obtain ⟨rfl, rfl, rfl⟩ := H
     obtain ⟨Ao11, co11, eo11⟩ := Kd.V_slice HO_1.out
     subst eo11
     go_wp2_with (first | ((with_reducible refine gate_callee (f := 55) rfl ?_); refine goesL_ (some 36) rfl rfl Tryd.func55 (by kernel_rfl) rfl #[.slice Ao11 x1_1.length co11, .slice A2 l2.length c2] rfl qL ?_; (with_reducible refine (approx_half.calls k1 _ _ x1_1 _ _ l2 t305 _ ?side1 ?side2 ?side3 ?side4 A10.out).mono ?_); (case side1 => exact qC (Kd.V_reads' HO_1.out).2.2); (case side2 => exact (Kd.V_reads' HO_1.out).2.1); (case side3 => exact qC (Kd.C_below HR2.out HB.out)); (case side4 => exact HC2.out); rintro e w12 ⟨rfl, hb⟩; refine ⟨_, rfl, ?_⟩; have n0_ := Aside0.mk (Kd.V_below (qV HO_1.out) hb); have n1_ := Aside0.mk (below_step qB hb); clear HO_1; clear HB; have HO_1 := n0_; have HB := n1_; clear n0_ n1_; (try clear hb); (try clear hb2); (try clear hk); (try clear hi)))
     go_ret3
     exact ⟨by first | rfl | (simp [errW_none, errW_some] <;> rfl) | (simp [*, errW_none, errW_some] <;> rfl), qB⟩
   ·rw [if_neg c5] at H
    have c5b0 : decide (x9_1 < 4503599627370496) = false := decide_eq_false c5
    clear c5
    obtain ⟨t306, A130, H⟩ := Option.bind_eq_some_iff.mp H
    try dsimp only at H
    have A13 := Aside0.mk A130
    clear A130
    simp only [Option.some.injEq, Prod.mk.injEq] at H
    obtain ⟨rfl, rfl, rfl⟩ := H
    obtain ⟨Ao14, co14, eo14⟩ := Kd.V_slice HO_1.out
    subst eo14
    go_wp2_with (first | ((with_reducible refine gate_callee (f := 55) rfl ?_); refine goesL_ (some 36) rfl rfl Tryd.func55 (by kernel_rfl) rfl #[.slice Ao14 x1_1.length co14, .slice A2 l2.length c2] rfl qL ?_; (with_reducible refine (approx_half.calls k1 _ _ x1_1 _ _ l2 t306 _ ?side1 ?side2 ?side3 ?side4 A13.out).mono ?_); (case side1 => exact qC (Kd.V_reads' HO_1.out).2.2); (case side2 => exact (Kd.V_reads' HO_1.out).2.1); (case side3 => exact qC (Kd.C_below HR2.out HB.out)); (case side4 => exact HC2.out); rintro e w15 ⟨rfl, hb⟩; refine ⟨_, rfl, ?_⟩; have n0_ := Aside0.mk (Kd.V_below (qV HO_1.out) hb); have n1_ := Aside0.mk (below_step qB hb); clear HO_1; clear HB; have HO_1 := n0_; have HB := n1_; clear n0_ n1_; (try clear hb); (try clear hb2); (try clear hk); (try clear hi)))
    go_ret3
    exact ⟨by first | rfl | (simp [errW_none, errW_some] <;> rfl) | (simp [*, errW_none, errW_some] <;> rfl), qB⟩

/-! ### approx_power: function 36 -/
def approx_power.f (a0 : Int) : Option (List Int) := if 0 ≤ (wrap64 ((wrap64 (Int.tdiv a0 32)) + 1)) then (if (wrap64 ((wrap64 (Int.tdiv a0 32)) + 1) : Int).toNat ≤ 70368744177664 then ((some (List.replicate (wrap64 ((wrap64 (Int.tdiv a0 32)) + 1) : Int).toNat 0 : List Int)).bind fun y307 => (if 0 ≤ (Int.tmod a0 32) then (if 0 ≤ (wrap64 (Int.tdiv a0 32)) then (if (wrap64 (Int.tdiv a0 32)) < (y307.length : Int) then (some (y307.set ((wrap64 (Int.tdiv a0 32)) : Int).toNat (shl .u32 1 (Int.tmod a0 32)))) else (none)) else (none)) else (none))) else (none)) else (none)
set_option maxHeartbeats 8000000 in
set_option maxRecDepth 100000 in
theorem approx_power.calls (a0 : Int) (r : List Int) (w : World) (h : approx_power.f a0 = some r) :
  Calls Tryd.prog 36 #[.int .i64 a0] w fun e w' => ∃ v0_ : Value, e = .returned (v0_) ∧ Kd.R (Kd.int .u32) 47 w' w.heap.size (fun _ => True) v0_ r ∧ Below w.heap.size w w' := by
 have HB := Aside0.mk (Below.refl w.heap.size w)
 have H : (if 0 ≤ (wrap64 ((wrap64 (Int.tdiv a0 32)) + 1)) then (if (wrap64 ((wrap64 (Int.tdiv a0 32)) + 1) : Int).toNat ≤ 70368744177664 then ((some (List.replicate (wrap64 ((wrap64 (Int.tdiv a0 32)) + 1) : Int).toNat 0 : List Int)).bind fun y307 => (if 0 ≤ (Int.tmod a0 32) then (if 0 ≤ (wrap64 (Int.tdiv a0 32)) then (if (wrap64 (Int.tdiv a0 32)) < (y307.length : Int) then (some (y307.set ((wrap64 (Int.tdiv a0 32)) : Int).toNat (shl .u32 1 (Int.tmod a0 32)))) else (none)) else (none)) else (none))) else (none)) else (none)) = some r := h
 clear h
 obtain ⟨ji2, hji2⟩ : ∃ j_ : Int, (wrap64 ((wrap64 (Int.tdiv a0 32)) + 1)) = j_ := ⟨_, rfl⟩
 replace H : (if 0 ≤ (ji2) then (if (ji2 : Int).toNat ≤ 70368744177664 then ((some (List.replicate (ji2 : Int).toNat 0 : List Int)).bind fun y307 => (if 0 ≤ (Int.tmod a0 32) then (if 0 ≤ (wrap64 (Int.tdiv a0 32)) then (if (wrap64 (Int.tdiv a0 32)) < (y307.length : Int) then (some (y307.set ((wrap64 (Int.tdiv a0 32)) : Int).toNat (shl .u32 1 (Int.tmod a0 32)))) else (none)) else (none)) else (none))) else (none)) else (none)) = some r := by first | (rw [hji2] at H; exact H) | (simp only [hji2] at H ⊢; exact H)
 have hji2w : (IntKind.i64.wrap ((wrap64 (Int.tdiv a0 32)) + 1)) = ji2 := (i64_w _).trans hji2
 by_cases c3 : 0 ≤ (ji2)
 ·rw [if_pos c3] at H
  have c3b0 := eq_true c3
  have c3b1 : decide (0 ≤ (ji2)) = true := decide_eq_true c3
  clear c3
  by_cases c4 : (ji2 : Int).toNat ≤ 70368744177664
  ·rw [if_pos c4] at H
   have c4b0 := eq_true c4
   have c4b1 : decide ((ji2 : Int).toNat ≤ 70368744177664) = true := decide_eq_true c4
   clear c4
   obtain ⟨y307, hy307⟩ : ∃ y_ : List Int, y_ = (List.replicate (ji2 : Int).toNat 0) := ⟨_, rfl⟩
   replace H : (if 0 ≤ (Int.tmod a0 32) then (if 0 ≤ (wrap64 (Int.tdiv a0 32)) then (if (wrap64 (Int.tdiv a0 32)) < (y307.length : Int) then (some (y307.set ((wrap64 (Int.tdiv a0 32)) : Int).toNat (shl .u32 1 (Int.tmod a0 32)))) else (none)) else (none)) else (none)) = some r := by first | (rw [hy307]; with_reducible exact H) | (have H2_ := (Option.bind_some _ _).symm.trans H; rw [hy307]; with_reducible exact H2_) | (have H2_ := (Option.bind_some _ _).symm.trans H; with_reducible exact H2_) | with_reducible exact H | (rw [hy307]; exact H) | exact H
   have Ny307 := Aside0.mk hy307
   clear hy307
   obtain ⟨ji5, hji5⟩ : ∃ j_ : Int, (Int.tmod a0 32) = j_ := ⟨_, rfl⟩
   replace H : (if 0 ≤ (ji5) then (if 0 ≤ (wrap64 (Int.tdiv a0 32)) then (if (wrap64 (Int.tdiv a0 32)) < (y307.length : Int) then (some (y307.set ((wrap64 (Int.tdiv a0 32)) : Int).toNat (shl .u32 1 (ji5)))) else (none)) else (none)) else (none)) = some r := by first | (rw [hji5] at H; exact H) | (simp only [hji5] at H ⊢; exact H)
   by_cases c6 : 0 ≤ (ji5)
   ·rw [if_pos c6] at H
    have c6b0 := eq_true c6
    have c6b1 : decide (0 ≤ (ji5)) = true := decide_eq_true c6
    clear c6
    obtain ⟨ji7, hji7⟩ : ∃ j_ : Int, (shl .u32 1 (ji5)) = j_ := ⟨_, rfl⟩
    replace H : (if 0 ≤ (wrap64 (Int.tdiv a0 32)) then (if (wrap64 (Int.tdiv a0 32)) < (y307.length : Int) then (some (y307.set ((wrap64 (Int.tdiv a0 32)) : Int).toNat (ji7))) else (none)) else (none)) = some r := by first | (rw [hji7] at H; exact H) | (simp only [hji7] at H ⊢; exact H)
    have hji7_ : (IntKind.u32.wrap (1 * 2 ^ min (ji5).toNat 32)) = ji7 := hji7
    have hji7z : (ji5) ≤ 32 → (IntKind.u32.wrap (1 * 2 ^ (ji5).toNat)) = ji7 := shl_small hji7
    have hji7u : (IntKind.u32.wrap (2 ^ min (ji5).toNat 32)) = ji7 := by have h_ := hji7_; rw [Int.one_mul] at h_; exact h_
    have hji7v : (ji5) ≤ 32 → (IntKind.u32.wrap (2 ^ (ji5).toNat)) = ji7 := fun hle_ => by have h_ := hji7z hle_; rw [Int.one_mul] at h_; exact h_
    obtain ⟨ji8, hji8⟩ : ∃ j_ : Int, (wrap64 (Int.tdiv a0 32)) = j_ := ⟨_, rfl⟩
    have hji2_ji8 : (wrap64 (ji8 + 1)) = ji2 := by rw [← hji8]; exact hji2
    have hji2_ji8w : (IntKind.i64.wrap (ji8 + 1)) = ji2 := (i64_w _).trans hji2_ji8
    replace H : (if 0 ≤ (ji8) then (if (ji8) < (y307.length : Int) then (some (y307.set ((ji8) : Int).toNat (ji7))) else (none)) else (none)) = some r := by first | (rw [hji8] at H; exact H) | (simp only [hji8] at H ⊢; exact H)
    have hji8w : (IntKind.i64.wrap (Int.tdiv a0 32)) = ji8 := (i64_w _).trans hji8
    by_cases c9 : 0 ≤ (ji8)
    ·rw [if_pos c9] at H
     have c9b0 : decide (0 ≤ (ji8)) = true := decide_eq_true c9
     clear c9
     by_cases c10 : (ji8) < (y307.length : Int)
     ·rw [if_pos c10] at H
      have c10b0 : decide ((ji8) < (y307.length : Int)) = true := decide_eq_true c10
      clear c10
      obtain ⟨y310, hy310⟩ : ∃ y_ : List Int, y_ = (y307.set ((ji8) : Int).toNat (ji7)) := ⟨_, rfl⟩
      replace H : (some y310) = some r := by first | (rw [hy310]; with_reducible exact H) | (have H2_ := (Option.bind_some _ _).symm.trans H; rw [hy310]; with_reducible exact H2_) | (have H2_ := (Option.bind_some _ _).symm.trans H; with_reducible exact H2_) | with_reducible exact H | (rw [hy310]; exact H) | exact H
      have Ny310 := Aside0.mk hy310
      clear hy310
      obtain rfl := Option.some.inj H
      go_enter Tryd.func36, Tryd.ntmps36
      go_wp2_with (first | ((with_reducible refine gate_dst (N := 7) rfl ?_); refine Kd.R_make (Kd.int .u32) _ 47 rfl (N := 7) rfl 23 _ _ rfl ji2 rfl rfl Tryd.underlying23 (.int .u32 0) 4 info47 rfl (by decide) (by omega) 0 (ok := fun _ => True) (okp := fun _ => True) rfl (fun _ hk => hk) trivial (of_decide_eq_true qA) (Nat.le_trans (Nat.mul_le_mul_right _ (of_decide_eq_true qA : ji2.toNat ≤ 70368744177664)) (by omega)) (Below.refl _ _) (Nat.le_refl _) ?_; intro v308 w12 ho13 hb hg_ hnew_; clear hg_ hnew_; (first | rw [← Ny307.out] at ho13 | (simp only [Int.reduceToNat] at ho13; rw [← Ny307.out] at ho13)); have n0_ := Aside0.mk (Kd.R_lower ho13 (below_size qB)); have n1_ := Aside0.mk (below_step qB hb); clear HB; have HO309 := n0_; have HB := n1_; clear n0_ n1_; clear hb ho13; have p11 : 0 ≤ ((ji8) : Int) := of_decide_eq_true qA; have q11 : ((ji8) : Int) < ((y307.length : Int) : Int) := of_decide_eq_true qA; obtain ⟨go11, co11, eo11, gb11, gl11, cl11, HG11⟩ := Kd.R_form HO309.out (by omega); (first | cases eo11 | (injection eo11 with ea_ en_ ec_; (first | subst ea_ | (injection ea_ with ea_; subst ea_)); subst ec_; clear en_)); have GB11 := Aside0.mk gb11; have GG11 := Aside0.mk HG11; clear gb11 gl11 HG11; obtain ⟨hx11_0, hf11_0⟩ := Kd.R_celln 0 HO309.out ((ji8) : Int) p11 q11; replace p11 := eq_true p11; replace q11 := eq_true q11; obtain ⟨hy14_, hz14_⟩ := Kd.R_celln 0 HO309.out ((ji8) : Int) (of_decide_eq_true qA) (of_decide_eq_true qA); have HP14 := Kd.R_putg HO309.out ((ji8) : Int) ji7) | ((with_reducible refine gate_store (t := 47) (p := 14) rfl ?_); refine store_event (t := 47) (p := 14) (v := ?vo_w15) (w1 := (w12.setCell ⟨go11, ((ji8) : Int).toNat, none⟩ (.int .u32 ji7))) ?hg ?ho ?hn ?hr ?_; (case ho => rfl); (case hg => rfl); (case hn => rfl); (case hr => first | (go_simp; done) | (go_simp; rfl)); intro w15 hw; have hg : w12.grownBy w15 (some go11) := (by rw [hw]; exact HP14.2); have hp_ : Kd.R (Kd.int .u32) 47 w15 w.heap.size (fun _ => True) (.slice (some ⟨go11, 0, none⟩) y307.length co11) y310 := (by rw [hw, Ny310.out]; exact HP14.1); clear HP14; have n0_ := Aside0.mk (hp_); have n1_ := Aside0.mk ((by rw [hw]; exact below_set (HB.out) GB11.out : Below w.heap.size w w15)); clear HO309; clear HB; have HO309 := n0_; have HB := n1_; clear n0_ n1_; clear hg hw hp_))
      go_ret
      exact ⟨_, by first | rfl | (simp [errW_none, errW_some] <;> rfl) | (simp only [← hji2, ← hji5, ← hji7, ← hji8]; first | rfl | (simp [errW_none, errW_some] <;> rfl)) | (simp [*, errW_none, errW_some] <;> rfl), by (with_reducible repeat (first | apply Kd.R_alloc | apply Kd.R_drewN | apply Kd.R_drew)); exact HO309.out, qB⟩
     ·rw [if_neg c10] at H
      exact absurd H (by simp)
    ·rw [if_neg c9] at H
     exact absurd H (by simp)
   ·rw [if_neg c6] at H
    exact absurd H (by simp)
  ·rw [if_neg c4] at H
   exact absurd H (by simp)
 ·rw [if_neg c3] at H
  exact absurd H (by simp)

/-! ### approx_above: function 28 -/
def approx_above.f (k : Nat) (l0 : List Int) (l1 : List Int) (l2 : List Int) : Option (Int × Int × Int) := (nat_Bits.f l0).bind fun t311 => (if (wrap64 (t311 - 53)) = 0 then ((approx_number.f k l0).bind fun t312 => ((approx_half.f k l1 l2).bind fun t313 => (some (t312, 0, t313)))) else ((approx_power.f (wrap64 (t311 - 53))).bind fun t314 => ((nat_Div.f k l0 t314).bind fun bt317 => ((approx_power.f (wrap64 ((wrap64 (t311 - 53)) - 1))).bind fun t324 => ((nat_Cmp.f k bt317.2.1 t324).bind fun t327 => (if t327 = 0 then (if (l1.length : Int) > 0 then ((approx_number.f k bt317.1).bind fun t328 => (some (t328, wrap64 (t311 - 53), 1))) else ((approx_number.f k bt317.1).bind fun t329 => (some (t329, wrap64 (t311 - 53), t327)))) else ((approx_number.f k bt317.1).bind fun t330 => (some (t330, wrap64 (t311 - 53), t327)))))))))
theorem approx_above.mono : ∀ a0 a1 a2 k, LeO (approx_above.f k a0 a1 a2) (approx_above.f (k + 1) a0 a1 a2) := by
 intro a0 a1 a2 k
 unfold approx_above.f
 repeat' first
   | (with_reducible exact approx_half.mono _ _ _)
   | (with_reducible exact approx_number.mono _ _)
   | (with_reducible exact nat_Cmp.mono _ _ _)
   | (with_reducible exact nat_Div.mono _ _ _)
   | (with_reducible exact LeO.refl _)
   | (with_reducible exact LeO.none _)
   | (with_reducible refine LeO.ite ?_ ?_)
   | (with_reducible refine LeO.bind ?_ (fun _ => ?_))
   | exact approx_half.mono _ _ _
   | exact approx_number.mono _ _
   | exact nat_Cmp.mono _ _ _
   | exact nat_Div.mono _ _ _
   | exact LeO.none _
   | refine LeO.ite ?_ ?_
   | refine LeO.bind ?_ (fun _ => ?_)
set_option maxHeartbeats 8000000 in
set_option maxRecDepth 100000 in
theorem approx_above.calls (k : Nat) (A0 : Option Addr) (c0 : Nat) (l0 : List Int) (A1 : Option Addr) (c1 : Nat) (l1 : List Int) (A2 : Option Addr) (c2 : Nat) (l2 : List Int) (r1 : Int) (r2 : Int) (r3 : Int) (w : World) (hr0 : Kd.C (Kd.int .u32) w A0 l0.length l0) (hc0 : l0.length ≤ c0) (hr1 : Kd.C (Kd.int .u32) w A1 l1.length l1) (hc1 : l1.length ≤ c1) (hr2 : Kd.C (Kd.int .u32) w A2 l2.length l2) (hc2 : l2.length ≤ c2) (h : approx_above.f k l0 l1 l2 = some (r1, r2, r3)) :
  Calls Tryd.prog 28 #[.slice A0 l0.length c0, .slice A1 l1.length c1, .slice A2 l2.length c2] w fun e w' => e = .returned (.tuple #[.int .u64 r1, .int .i64 r2, .int .i64 r3]) ∧ Below w.heap.size w w' := by
 have HR0 := Aside0.mk hr0
 have HC0 := Aside0.mk hc0
 clear hr0 hc0
 have HR1 := Aside0.mk hr1
 have HC1 := Aside0.mk hc1
 clear hr1 hc1
 have HR2 := Aside0.mk hr2
 have HC2 := Aside0.mk hc2
 clear hr2 hc2
 have HB := Aside0.mk (Below.refl w.heap.size w)
 have H : ((nat_Bits.f l0).bind fun t311 => (if (wrap64 (t311 - 53)) = 0 then ((approx_number.f k l0).bind fun t312 => ((approx_half.f k l1 l2).bind fun t313 => (some (t312, 0, t313)))) else ((approx_power.f (wrap64 (t311 - 53))).bind fun t314 => ((nat_Div.f k l0 t314).bind fun bt317 => ((approx_power.f (wrap64 ((wrap64 (t311 - 53)) - 1))).bind fun t324 => ((nat_Cmp.f k bt317.2.1 t324).bind fun t327 => (if t327 = 0 then (if (l1.length : Int) > 0 then ((approx_number.f k bt317.1).bind fun t328 => (some (t328, wrap64 (t311 - 53), 1))) else ((approx_number.f k bt317.1).bind fun t329 => (some (t329, wrap64 (t311 - 53), t327)))) else ((approx_number.f k bt317.1).bind fun t330 => (some (t330, wrap64 (t311 - 53), t327)))))))))) = some (r1, r2, r3) := h
 clear h
 obtain ⟨t311, A40, H⟩ := Option.bind_eq_some_iff.mp H
 try dsimp only at H
 have A4 := Aside0.mk A40
 clear A40
 by_cases c5 : (wrap64 (t311 - 53)) = 0
 ·rw [if_pos c5] at H
  have c5b0 : ((wrap64 (t311 - 53)) == 0) = true := beq_iff_eq.mpr c5
  have c5b1 : ((wrap64 (t311 - 53)) != 0) = false := bne_eq_false_iff_eq.mpr c5
  clear c5
  obtain ⟨t312, A60, H⟩ := Option.bind_eq_some_iff.mp H
  try dsimp only at H
  have A6 := Aside0.mk A60
  clear A60
  obtain ⟨t313, A70, H⟩ := Option.bind_eq_some_iff.mp H
  try dsimp only at H
  have A7 := Aside0.mk A70
  clear A70
  simp only [Option.some.injEq, Prod.mk.injEq] at H
  obtain ⟨rfl, rfl, rfl⟩ := H
  go_enter Tryd.func28, Tryd.ntmps28
  go_wp2_with (first | ((with_reducible refine gate_callee (f := 26) rfl ?_); refine goesL_ (some 15) rfl rfl Tryd.func26 (by kernel_rfl) rfl #[.slice A0 l0.length c0] rfl qL ?_; (with_reducible refine (nat_Bits.calls _ _ l0 t311 _ ?side1 ?side2 A4.out).mono ?_); (case side1 => exact qC HR0.out); (case side2 => exact HC0.out); rintro e w' ⟨rfl, ⟨nd, rfl⟩⟩; refine ⟨_, rfl, ?_⟩) | ((with_reducible refine gate_callee (f := 53) rfl ?_); refine goesL_ (some 20) rfl rfl Tryd.func53 (by kernel_rfl) rfl #[.slice A0 l0.length c0] rfl qL ?_; (with_reducible refine (approx_number.calls k _ _ l0 t312 _ ?side1 ?side2 A6.out).mono ?_); (case side1 => exact qC HR0.out); (case side2 => exact HC0.out); rintro e w' ⟨rfl, ⟨nd, rfl⟩⟩; refine ⟨_, rfl, ?_⟩) | ((with_reducible refine gate_callee (f := 55) rfl ?_); refine goesL_ (some 23) rfl rfl Tryd.func55 (by kernel_rfl) rfl #[.slice A1 l1.length c1, .slice A2 l2.length c2] rfl qL ?_; (with_reducible refine (approx_half.calls k _ _ l1 _ _ l2 t313 _ ?side1 ?side2 ?side3 ?side4 A7.out).mono ?_); (case side1 => exact qC HR1.out); (case side2 => exact HC1.out); (case side3 => exact qC HR2.out); (case side4 => exact HC2.out); rintro e w8 ⟨rfl, hb⟩; refine ⟨_, rfl, ?_⟩; have n0_ := Aside0.mk (below_step qB hb); clear HB; have HB := n0_; clear n0_; (try clear hb); (try clear hb2); (try clear hk); (try clear hi)))
  go_ret3
  exact ⟨by first | rfl | (simp [errW_none, errW_some] <;> rfl) | (simp [*, errW_none, errW_some] <;> rfl), qB⟩
 ·rw [if_neg c5] at H
  have c5b0 : ((wrap64 (t311 - 53)) == 0) = false := beq_eq_false_iff_ne.mpr c5
  have c5b1 : ((wrap64 (t311 - 53)) != 0) = true := bne_iff_ne.mpr c5
  obtain ⟨t314, A90, H⟩ := Option.bind_eq_some_iff.mp H
  try dsimp only at H
  have A9 := Aside0.mk A90
  clear A90
  obtain ⟨⟨t317, t318, t319⟩, A100, H⟩ := Option.bind_eq_some_iff.mp H
  try dsimp only at H
  have A10 := Aside0.mk A100
  clear A100
  obtain ⟨t324, A110, H⟩ := Option.bind_eq_some_iff.mp H
  try dsimp only at H
  have A11 := Aside0.mk A110
  clear A110
  obtain ⟨t327, A120, H⟩ := Option.bind_eq_some_iff.mp H
  try dsimp only at H
  have A12 := Aside0.mk A120
  clear A120
  by_cases c13 : t327 = 0
  ·rw [if_pos c13] at H
   have c13b0 : (t327 == 0) = true := beq_iff_eq.mpr c13
   have c13b1 : (t327 != 0) = false := bne_eq_false_iff_eq.mpr c13
   clear c13
   by_cases c14 : (l1.length : Int) > 0
   ·rw [if_pos c14] at H
    have c14b0 : decide (0 < (l1.length : Int)) = true := decide_eq_true c14
    have c14b1 : decide (0 < l1.length) = true := decide_eq_true (by omega)
    clear c14
    obtain ⟨t328, A150, H⟩ := Option.bind_eq_some_iff.mp H
    try dsimp only at H
    have A15 := Aside0.mk A150
    clear A150
    simp only [Option.some.injEq, Prod.mk.injEq] at H
    obtain ⟨rfl, rfl, rfl⟩ := H
    go_enter Tryd.func28, Tryd.ntmps28
    go_wp2_with (first | ((with_reducible refine gate_callee (f := 26) rfl ?_); refine goesL_ (some 15) rfl rfl Tryd.func26 (by kernel_rfl) rfl #[.slice A0 l0.length c0] rfl qL ?_; (with_reducible refine (nat_Bits.calls _ _ l0 t311 _ ?side1 ?side2 A4.out).mono ?_); (case side1 => exact qC HR0.out); (case side2 => exact HC0.out); rintro e w' ⟨rfl, ⟨nd, rfl⟩⟩; refine ⟨_, rfl, ?_⟩) | ((with_reducible refine gate_callee (f := 36) rfl ?_); refine goesL_ (some 27) rfl rfl Tryd.func36 (by kernel_rfl) rfl #[.int .i64 (wrap64 (t311 - 53))] rfl qL ?_; (with_reducible refine (approx_power.calls (wrap64 (t311 - 53)) t314 _ A9.out).mono ?_); rintro e w16 ⟨v315, rfl, ho0, hb⟩; refine ⟨_, rfl, ?_⟩; have n0_ := Aside0.mk (Kd.R_lower ho0 (below_size qB)); have n1_ := Aside0.mk (below_step qB hb); clear HB; have HO316 := n0_; have HB := n1_; clear n0_ n1_; (try clear hb); (try clear hb2); (try clear hk); (try clear hi); (try clear ho0); obtain ⟨Ao17, co17, eo17⟩ := Kd.R_slice HO316.out; subst eo17) | ((with_reducible refine gate_callee (f := 25) rfl ?_); refine goesL_ (some 28) rfl rfl Tryd.func25 (by kernel_rfl) rfl #[.slice A0 l0.length c0, .slice Ao17 t314.length co17] rfl qL ?_; (with_reducible refine (nat_Div.calls k _ _ l0 _ _ t314 t317 t318 t319 _ ?side1 ?side2 ?side3 ?side4 A10.out).mono ?_); (case side1 => exact qC (Kd.C_below HR0.out HB.out)); (case side2 => exact HC0.out); (case side3 => exact qC (Kd.R_reads' HO316.out).2.2); (case side4 => exact (Kd.R_reads' HO316.out).2.1); rintro e w18 ⟨v320, v322, rfl, ho0, ho1, hb⟩; refine ⟨_, rfl, ?_⟩; have n0_ := Aside0.mk (Kd.R_mono (Kd.R_told (Kd.R_told (Kd.R_old (qR HO316.out) hb) (Kd.R_base ho0)) (Kd.R_base ho1)) (fun _ h_ => h_.1)); have n1_ := Aside0.mk (Kd.R_lower (Kd.R_new' ho0 (Kd.R_lt (qR HO316.out))) (below_size qB)); have n2_ := Aside0.mk (Kd.R_lower (Kd.R_new' ho1 (Kd.R_lt (qR HO316.out))) (below_size qB)); have n3_ := Aside0.mk (below_step qB hb); clear HO316; clear HB; have HO316 := n0_; have HO321 := n1_; have HO323 := n2_; have HB := n3_; clear n0_ n1_ n2_ n3_; (try clear hb); (try clear hb2); (try clear hk); (try clear hi); (try clear ho0); (try clear ho1)) | ((with_reducible refine gate_callee (f := 36) rfl ?_); refine goesL_ (some 35) rfl rfl Tryd.func36 (by kernel_rfl) rfl #[.int .i64 (wrap64 ((wrap64 (t311 - 53)) - 1))] rfl qL ?_; (with_reducible refine (approx_power.calls (wrap64 ((wrap64 (t311 - 53)) - 1)) t324 _ A11.out).mono ?_); rintro e w19 ⟨v325, rfl, ho0, hb⟩; refine ⟨_, rfl, ?_⟩; have n0_ := Aside0.mk (Kd.R_elder' (qR HO316.out) (Kd.R_base ho0) hb); have n1_ := Aside0.mk (Kd.R_elder' (qR HO321.out) (Kd.R_base ho0) hb); have n2_ := Aside0.mk (Kd.R_elder' (qR HO323.out) (Kd.R_base ho0) hb); have n3_ := Aside0.mk (Kd.R_lower (Kd.R_new' (Kd.R_new' (Kd.R_new' ho0 (Kd.R_lt (qR HO316.out))) (Kd.R_lt (qR HO321.out))) (Kd.R_lt (qR HO323.out))) (below_size qB)); have n4_ := Aside0.mk (below_step qB hb); clear HO316; clear HO321; clear HO323; clear HB; have HO316 := n0_; have HO321 := n1_; have HO323 := n2_; have HO326 := n3_; have HB := n4_; clear n0_ n1_ n2_ n3_ n4_; (try clear hb); (try clear hb2); (try clear hk); (try clear hi); (try clear ho0); obtain ⟨Ao20, co20, eo20⟩ := Kd.R_slice HO323.out; subst eo20; obtain ⟨Ao21, co21, eo21⟩ := Kd.R_slice HO326.out; subst eo21) | ((with_reducible refine gate_callee (f := 19) rfl ?_); refine goesL_ (some 36) rfl rfl Tryd.func19 (by kernel_rfl) rfl #[.slice Ao20 t318.length co20, .slice Ao21 t324.length co21] rfl qL ?_; (with_reducible refine (nat_Cmp.calls k _ _ t318 _ _ t324 t327 _ ?side1 ?side2 ?side3 ?side4 A12.out).mono ?_); (case side1 => exact qC (Kd.R_reads' HO323.out).2.2); (case side2 => exact (Kd.R_reads' HO323.out).2.1); (case side3 => exact qC (Kd.R_reads' HO326.out).2.2); (case side4 => exact (Kd.R_reads' HO326.out).2.1); rintro e w22 ⟨rfl, hb⟩; refine ⟨_, rfl, ?_⟩; have n0_ := Aside0.mk (Kd.R_below (qR HO316.out) hb); have n1_ := Aside0.mk (Kd.R_below (qR HO321.out) hb); have n2_ := Aside0.mk (Kd.R_below (qR HO323.out) hb); have n3_ := Aside0.mk (Kd.R_below (qR HO326.out) hb); have n4_ := Aside0.mk (below_step qB hb); clear HO316; clear HO321; clear HO323; clear HO326; clear HB; have HO316 := n0_; have HO321 := n1_; have HO323 := n2_; have HO326 := n3_; have HB := n4_; clear n0_ n1_ n2_ n3_ n4_; (try clear hb); (try clear hb2); (try clear hk); (try clear hi); obtain ⟨Ao23, co23, eo23⟩ := Kd.R_slice HO321.out; subst eo23) | ((with_reducible refine gate_callee (f := 53) rfl ?_); refine goesL_ (some 45) rfl rfl Tryd.func53 (by kernel_rfl) rfl #[.slice Ao23 t317.length co23] rfl qL ?_; (with_reducible refine (approx_number.calls k _ _ t317 t328 _ ?side1 ?side2 A15.out).mono ?_); (case side1 => exact qC (Kd.R_reads' HO321.out).2.2); (case side2 => exact (Kd.R_reads' HO321.out).2.1); rintro e w' ⟨rfl, ⟨nd, rfl⟩⟩; refine ⟨_, rfl, ?_⟩))
    go_ret3
    exact ⟨by first | rfl | (simp [errW_none, errW_some] <;> rfl) | (simp [*, errW_none, errW_some] <;> rfl), qB⟩
   ·rw [if_neg c14] at H
    have c14b0 : decide (0 < (l1.length : Int)) = false := decide_eq_false c14
    have c14b1 : decide (0 < l1.length) = false := decide_eq_false (by omega)
    clear c14
    obtain ⟨t329, A240, H⟩ := Option.bind_eq_some_iff.mp H
    try dsimp only at H
    have A24 := Aside0.mk A240
    clear A240
    simp only [Option.some.injEq, Prod.mk.injEq] at H
    obtain ⟨rfl, rfl, rfl⟩ := H
    go_enter Tryd.func28, Tryd.ntmps28
    go_wp2_with (first | ((with_reducible refine gate_callee (f := 26) rfl ?_); refine goesL_ (some 15) rfl rfl Tryd.func26 (by kernel_rfl) rfl #[.slice A0 l0.length c0] rfl qL ?_; (with_reducible refine (nat_Bits.calls _ _ l0 t311 _ ?side1 ?side2 A4.out).mono ?_); (case side1 => exact qC HR0.out); (case side2 => exact HC0.out); rintro e w' ⟨rfl, ⟨nd, rfl⟩⟩; refine ⟨_, rfl, ?_⟩) | ((with_reducible refine gate_callee (f := 36) rfl ?_); refine goesL_ (some 27) rfl rfl Tryd.func36 (by kernel_rfl) rfl #[.int .i64 (wrap64 (t311 - 53))] rfl qL ?_; (with_reducible refine (approx_power.calls (wrap64 (t311 - 53)) t314 _ A9.out).mono ?_); rintro e w25 ⟨v315, rfl, ho0, hb⟩; refine ⟨_, rfl, ?_⟩; have n0_ := Aside0.mk (Kd.R_lower ho0 (below_size qB)); have n1_ := Aside0.mk (below_step qB hb); clear HB; have HO316 := n0_; have HB := n1_; clear n0_ n1_; (try clear hb); (try clear hb2); (try clear hk); (try clear hi); (try clear ho0); obtain ⟨Ao26, co26, eo26⟩ := Kd.R_slice HO316.out; subst eo26) | ((with_reducible refine gate_callee (f := 25) rfl ?_); refine goesL_ (some 28) rfl rfl Tryd.func25 (by kernel_rfl) rfl #[.slice A0 l0.length c0, .slice Ao26 t314.length co26] rfl qL ?_; (with_reducible refine (nat_Div.calls k _ _ l0 _ _ t314 t317 t318 t319 _ ?side1 ?side2 ?side3 ?side4 A10.out).mono ?_); (case side1 => exact qC (Kd.C_below HR0.out HB.out)); (case side2 => exact HC0.out); (case side3 => exact qC (Kd.R_reads' HO316.out).2.2); (case side4 => exact (Kd.R_reads' HO316.out).2.1); rintro e w27 ⟨v320, v322, rfl, ho0, ho1, hb⟩; refine ⟨_, rfl, ?_⟩; have n0_ := Aside0.mk (Kd.R_mono (Kd.R_told (Kd.R_told (Kd.R_old (qR HO316.out) hb) (Kd.R_base ho0)) (Kd.R_base ho1)) (fun _ h_ => h_.1)); have n1_ := Aside0.mk (Kd.R_lower (Kd.R_new' ho0 (Kd.R_lt (qR HO316.out))) (below_size qB)); have n2_ := Aside0.mk (Kd.R_lower (Kd.R_new' ho1 (Kd.R_lt (qR HO316.out))) (below_size qB)); have n3_ := Aside0.mk (below_step qB hb); clear HO316; clear HB; have HO316 := n0_; have HO321 := n1_; have HO323 := n2_; have HB := n3_; clear n0_ n1_ n2_ n3_; (try clear hb); (try clear hb2); (try clear hk); (try clear hi); (try clear ho0); (try clear ho1)) | ((with_reducible refine gate_callee (f := 36) rfl ?_); refine goesL_ (some 35) rfl rfl Tryd.func36 (by kernel_rfl) rfl #[.int .i64 (wrap64 ((wrap64 (t311 - 53)) - 1))] rfl qL ?_; (with_reducible refine (approx_power.calls (wrap64 ((wrap64 (t311 - 53)) - 1)) t324 _ A11.out).mono ?_); rintro e w28 ⟨v325, rfl, ho0, hb⟩; refine ⟨_, rfl, ?_⟩; have n0_ := Aside0.mk (Kd.R_elder' (qR HO316.out) (Kd.R_base ho0) hb); have n1_ := Aside0.mk (Kd.R_elder' (qR HO321.out) (Kd.R_base ho0) hb); have n2_ := Aside0.mk (Kd.R_elder' (qR HO323.out) (Kd.R_base ho0) hb); have n3_ := Aside0.mk (Kd.R_lower (Kd.R_new' (Kd.R_new' (Kd.R_new' ho0 (Kd.R_lt (qR HO316.out))) (Kd.R_lt (qR HO321.out))) (Kd.R_lt (qR HO323.out))) (below_size qB)); have n4_ := Aside0.mk (below_step qB hb); clear HO316; clear HO321; clear HO323; clear HB; have HO316 := n0_; have HO321 := n1_; have HO323 := n2_; have HO326 := n3_; have HB := n4_; clear n0_ n1_ n2_ n3_ n4_; (try clear hb); (try clear hb2); (try clear hk); (try clear hi); (try clear ho0); obtain ⟨Ao29, co29, eo29⟩ := Kd.R_slice HO323.out; subst eo29; obtain ⟨Ao30, co30, eo30⟩ := Kd.R_slice HO326.out; subst eo30) | ((with_reducible refine gate_callee (f := 19) rfl ?_); refine goesL_ (some 36) rfl rfl Tryd.func19 (by kernel_rfl) rfl #[.slice Ao29 t318.length co29, .slice Ao30 t324.length co30] rfl qL ?_; (with_reducible refine (nat_Cmp.calls k _ _ t318 _ _ t324 t327 _ ?side1 ?side2 ?side3 ?side4 A12.out).mono ?_); (case side1 => exact qC (Kd.R_reads' HO323.out).2.2); (case side2 => exact (Kd.R_reads' HO323.out).2.1); (case side3 => exact qC (Kd.R_reads' HO326.out).2.2); (case side4 => exact (Kd.R_reads' HO326.out).2.1); rintro e w31 ⟨rfl, hb⟩; refine ⟨_, rfl, ?_⟩; have n0_ := Aside0.mk (Kd.R_below (qR HO316.out) hb); have n1_ := Aside0.mk (Kd.R_below (qR HO321.out) hb); have n2_ := Aside0.mk (Kd.R_below (qR HO323.out) hb); have n3_ := Aside0.mk (Kd.R_below (qR HO326.out) hb); have n4_ := Aside0.mk (below_step qB hb); clear HO316; clear HO321; clear HO323; clear HO326; clear HB; have HO316 := n0_; have HO321 := n1_; have HO323 := n2_; have HO326 := n3_; have HB := n4_; clear n0_ n1_ n2_ n3_ n4_; (try clear hb); (try clear hb2); (try clear hk); (try clear hi); obtain ⟨Ao32, co32, eo32⟩ := Kd.R_slice HO321.out; subst eo32) | ((with_reducible refine gate_callee (f := 53) rfl ?_); refine goesL_ (some 45) rfl rfl Tryd.func53 (by kernel_rfl) rfl #[.slice Ao32 t317.length co32] rfl qL ?_; (with_reducible refine (approx_number.calls k _ _ t317 t329 _ ?side1 ?side2 A24.out).mono ?_); (case side1 => exact qC (Kd.R_reads' HO321.out).2.2); (case side2 => exact (Kd.R_reads' HO321.out).2.1); rintro e w' ⟨rfl, ⟨nd, rfl⟩⟩; refine ⟨_, rfl, ?_⟩))
    go_ret3
    exact ⟨by first | rfl | (simp [errW_none, errW_some] <;> rfl) | (simp [*, errW_none, errW_some] <;> rfl), qB⟩
  ·rw [if_neg c13] at H
   have c13b0 : (t327 == 0) = false := beq_eq_false_iff_ne.mpr c13
   have c13b1 : (t327 != 0) = true := bne_iff_ne.mpr c13
   obtain ⟨t330, A330, H⟩ := Option.bind_eq_some_iff.mp H
   try dsimp only at H
   have A33 := Aside0.mk A330
   clear A330
   simp only [Option.some.injEq, Prod.mk.injEq] at H
   obtain ⟨rfl, rfl, rfl⟩ := H
   go_enter Tryd.func28, Tryd.ntmps28
   go_wp2_with (first | ((with_reducible refine gate_callee (f := 26) rfl ?_); refine goesL_ (some 15) rfl rfl Tryd.func26 (by kernel_rfl) rfl #[.slice A0 l0.length c0] rfl qL ?_; (with_reducible refine (nat_Bits.calls _ _ l0 t311 _ ?side1 ?side2 A4.out).mono ?_); (case side1 => exact qC HR0.out); (case side2 => exact HC0.out); rintro e w' ⟨rfl, ⟨nd, rfl⟩⟩; refine ⟨_, rfl, ?_⟩) | ((with_reducible refine gate_callee (f := 36) rfl ?_); refine goesL_ (some 27) rfl rfl Tryd.func36 (by kernel_rfl) rfl #[.int .i64 (wrap64 (t311 - 53))] rfl qL ?_; (with_reducible refine (approx_power.calls (wrap64 (t311 - 53)) t314 _ A9.out).mono ?_); rintro e w34 ⟨v315, rfl, ho0, hb⟩; refine ⟨_, rfl, ?_⟩; have n0_ := Aside0.mk (Kd.R_lower ho0 (below_size qB)); have n1_ := Aside0.mk (below_step qB hb); clear HB; have HO316 := n0_; have HB := n1_; clear n0_ n1_; (try clear hb); (try clear hb2); (try clear hk); (try clear hi); (try clear ho0); obtain ⟨Ao35, co35, eo35⟩ := Kd.R_slice HO316.out; subst eo35) | ((with_reducible refine gate_callee (f := 25) rfl ?_); refine goesL_ (some 28) rfl rfl Tryd.func25 (by kernel_rfl) rfl #[.slice A0 l0.length c0, .slice Ao35 t314.length co35] rfl qL ?_; (with_reducible refine (nat_Div.calls k _ _ l0 _ _ t314 t317 t318 t319 _ ?side1 ?side2 ?side3 ?side4 A10.out).mono ?_); (case side1 => exact qC (Kd.C_below HR0.out HB.out)); (case side2 => exact HC0.out); (case side3 => exact qC (Kd.R_reads' HO316.out).2.2); (case side4 => exact (Kd.R_reads' HO316.out).2.1); rintro e w36 ⟨v320, v322, rfl, ho0, ho1, hb⟩; refine ⟨_, rfl, ?_⟩; have n0_ := Aside0.mk (Kd.R_mono (Kd.R_told (Kd.R_told (Kd.R_old (qR HO316.out) hb) (Kd.R_base ho0)) (Kd.R_base ho1)) (fun _ h_ => h_.1)); have n1_ := Aside0.mk (Kd.R_lower (Kd.R_new' ho0 (Kd.R_lt (qR HO316.out))) (below_size qB)); have n2_ := Aside0.mk (Kd.R_lower (Kd.R_new' ho1 (Kd.R_lt (qR HO316.out))) (below_size qB)); have n3_ := Aside0.mk (below_step qB hb); clear HO316; clear HB; have HO316 := n0_; have HO321 := n1_; have HO323 := n2_; have HB := n3_; clear n0_ n1_ n2_ n3_; (try clear hb); (try clear hb2); (try clear hk); (try clear hi); (try clear ho0); (try clear ho1)) | ((with_reducible refine gate_callee (f := 36) rfl ?_); refine goesL_ (some 35) rfl rfl Tryd.func36 (by kernel_rfl) rfl #[.int .i64 (wrap64 ((wrap64 (t311 - 53)) - 1))] rfl qL ?_; (with_reducible refine (approx_power.calls (wrap64 ((wrap64 (t311 - 53)) - 1)) t324 _ A11.out).mono ?_); rintro e w37 ⟨v325, rfl, ho0, hb⟩; refine ⟨_, rfl, ?_⟩; have n0_ := Aside0.mk (Kd.R_elder' (qR HO316.out) (Kd.R_base ho0) hb); have n1_ := Aside0.mk (Kd.R_elder' (qR HO321.out) (Kd.R_base ho0) hb); have n2_ := Aside0.mk (Kd.R_elder' (qR HO323.out) (Kd.R_base ho0) hb); have n3_ := Aside0.mk (Kd.R_lower (Kd.R_new' (Kd.R_new' (Kd.R_new' ho0 (Kd.R_lt (qR HO316.out))) (Kd.R_lt (qR HO321.out))) (Kd.R_lt (qR HO323.out))) (below_size qB)); have n4_ := Aside0.mk (below_step qB hb); clear HO316; clear HO321; clear HO323; clear HB; have HO316 := n0_; have HO321 := n1_; have HO323 := n2_; have HO326 := n3_; have HB := n4_; clear n0_ n1_ n2_ n3_ n4_; (try clear hb); (try clear hb2); (try clear hk); (try clear hi); (try clear ho0); obtain ⟨Ao38, co38, eo38⟩ := Kd.R_slice HO323.out; subst eo38; obtain ⟨Ao39, co39, eo39⟩ := Kd.R_slice HO326.out; subst eo39) | ((with_reducible refine gate_callee (f := 19) rfl ?_); refine goesL_ (some 36) rfl rfl Tryd.func19 (by kernel_rfl) rfl #[.slice Ao38 t318.length co38, .slice Ao39 t324.length co39] rfl qL ?_; (with_reducible refine (nat_Cmp.calls k _ _ t318 _ _ t324 t327 _ ?side1 ?side2 ?side3 ?side4 A12.out).mono ?_); (case side1 => exact qC (Kd.R_reads' HO323.out).2.2); (case side2 => exact (Kd.R_reads' HO323.out).2.1); (case side3 => exact qC (Kd.R_reads' HO326.out).2.2); (case side4 => exact (Kd.R_reads' HO326.out).2.1); rintro e w40 ⟨rfl, hb⟩; refine ⟨_, rfl, ?_⟩; have n0_ := Aside0.mk (Kd.R_below (qR HO316.out) hb); have n1_ := Aside0.mk (Kd.R_below (qR HO321.out) hb); have n2_ := Aside0.mk (Kd.R_below (qR HO323.out) hb); have n3_ := Aside0.mk (Kd.R_below (qR HO326.out) hb); have n4_ := Aside0.mk (below_step qB hb); clear HO316; clear HO321; clear HO323; clear HO326; clear HB; have HO316 := n0_; have HO321 := n1_; have HO323 := n2_; have HO326 := n3_; have HB := n4_; clear n0_ n1_ n2_ n3_ n4_; (try clear hb); (try clear hb2); (try clear hk); (try clear hi); obtain ⟨Ao41, co41, eo41⟩ := Kd.R_slice HO321.out; subst eo41) | ((with_reducible refine gate_callee (f := 53) rfl ?_); refine goesL_ (some 45) rfl rfl Tryd.func53 (by kernel_rfl) rfl #[.slice Ao41 t317.length co41] rfl qL ?_; (with_reducible refine (approx_number.calls k _ _ t317 t330 _ ?side1 ?side2 A33.out).mono ?_); (case side1 => exact qC (Kd.R_reads' HO321.out).2.2); (case side2 => exact (Kd.R_reads' HO321.out).2.1); rintro e w' ⟨rfl, ⟨nd, rfl⟩⟩; refine ⟨_, rfl, ?_⟩))
   go_ret3
   exact ⟨by first | rfl | (simp [errW_none, errW_some] <;> rfl) | (simp [*, errW_none, errW_some] <;> rfl), qB⟩

-- NOT PRINTED: function 56 (math_archLdexp)

/-! ### math_IsNaN: function 30 -/
def math_IsNaN.f (a0 : Nat) : Option (Bool) := some (FloatKind.f64.format.order a0 a0 != some Ordering.eq)
set_option maxHeartbeats 8000000 in
set_option maxRecDepth 100000 in
theorem math_IsNaN.calls (a0 : Nat) (r : Bool) (w : World) (h : math_IsNaN.f a0 = some r) :
  Calls Tryd.prog 30 #[.float .f64 a0] w fun e w' => e = .returned (.bool r) ∧ Drawn0 w w' := by
 have H : (some (FloatKind.f64.format.order a0 a0 != some Ordering.eq)) = some r := h
 clear h
 obtain rfl := Option.some.inj H
 go_enter Tryd.func30, Tryd.ntmps30
 go_wp2
 go_ret
 exact ⟨by first | rfl | (simp; done) | (simp [*]; done), by repeat (first | exact Drawn0.refl _ | apply Drawn0.step)⟩

/-! ### math_Float64bits: function 38 has no body -/
theorem f64bits_run (a0 : Nat) (w : World) : (callFunc 38 #[.float .f64 a0]).run Tryd.prog w = .ok (.value (.int .u64 (a0 : Int))) w := by
 rw [run_callFunc_extern Tryd.func38 (by kernel_rfl) (by kernel_rfl) (by kernel_rfl) (e := Extern.MathFloatBits.float64bits) (by kernel_rfl)]
 rfl

/-! ### math_Abs: function 58 -/
def math_Abs.f (a0 : Nat) : Option (Nat) := some ((Go.bits .andNot .u64 (a0 : Int) 9223372036854775808).toNat)
set_option maxHeartbeats 8000000 in
set_option maxRecDepth 100000 in
theorem math_Abs.calls (a0 : Nat) (r : Nat) (w : World) (h : math_Abs.f a0 = some r) :
  Calls Tryd.prog 58 #[.float .f64 a0] w fun e w' => e = .returned (.float .f64 r) ∧ Drawn0 w w' := by
 have H : (some ((Go.bits .andNot .u64 (a0 : Int) 9223372036854775808).toNat)) = some r := h
 clear h
 obtain rfl := Option.some.inj H
 have hxf64bits_run_ := @f64bits_run
 have hxf64from_run_ := @f64from_run
 go_enter Tryd.func58, Tryd.ntmps58
 go_wp2
 go_ret
 exact ⟨by first | rfl | (simp; done) | (simp [*]; done), by repeat (first | exact Drawn0.refl _ | apply Drawn0.step)⟩

/-! ### math_IsInf: function 31 -/
def math_IsInf.f (a0 : Nat) (a1 : Int) : Option (Bool) := if a1 = 0 then ((math_Abs.f a0).bind fun t331 => (some (FloatKind.f64.format.order t331 9218868437227405311 == some Ordering.gt))) else (none)
set_option maxHeartbeats 8000000 in
set_option maxRecDepth 100000 in
theorem math_IsInf.calls (a0 : Nat) (a1 : Int) (r : Bool) (w : World) (h : math_IsInf.f a0 a1 = some r) :
  Calls Tryd.prog 31 #[.float .f64 a0, .int .i64 a1] w fun e w' => e = .returned (.bool r) ∧ Drawn0 w w' := by
 have H : (if a1 = 0 then ((math_Abs.f a0).bind fun t331 => (some (FloatKind.f64.format.order t331 9218868437227405311 == some Ordering.gt))) else (none)) = some r := h
 clear h
 by_cases c3 : a1 = 0
 ·rw [if_pos c3] at H
  have c3b0 : (a1 == 0) = true := beq_iff_eq.mpr c3
  have c3b1 : (a1 != 0) = false := bne_eq_false_iff_eq.mpr c3
  clear c3
  obtain ⟨t331, A40, H⟩ := Option.bind_eq_some_iff.mp H
  try dsimp only at H
  have A4 := Aside0.mk A40
  clear A40
  obtain rfl := Option.some.inj H
  go_enter Tryd.func31, Tryd.ntmps31
  go_wp2_with (first | ((with_reducible refine gate_callee (f := 58) rfl ?_); refine goesL_ (some 8) rfl rfl Tryd.func58 (by kernel_rfl) rfl #[.float .f64 a0] rfl qL ?_; (with_reducible refine (math_Abs.calls a0 t331 _ A4.out).mono ?_); rintro e w' ⟨rfl, ⟨nd, rfl⟩⟩; refine ⟨_, rfl, ?_⟩))
  go_ret
  exact ⟨by first | rfl | (simp; done) | (simp [*]; done), by repeat (first | exact Drawn0.refl _ | apply Drawn0.step)⟩
 ·rw [if_neg c3] at H
  exact absurd H (by simp)

/-! ### math_Copysign: function 41 -/
def math_Copysign.f (a0 : Nat) (a1 : Nat) : Option (Nat) := some ((Go.bits .or .u64 (Go.bits .andNot .u64 (a0 : Int) 9223372036854775808) (Go.bits .and .u64 (a1 : Int) 9223372036854775808)).toNat)
set_option maxHeartbeats 8000000 in
set_option maxRecDepth 100000 in
theorem math_Copysign.calls (a0 : Nat) (a1 : Nat) (r : Nat) (w : World) (h : math_Copysign.f a0 a1 = some r) :
  Calls Tryd.prog 41 #[.float .f64 a0, .float .f64 a1] w fun e w' => e = .returned (.float .f64 r) ∧ Drawn0 w w' := by
 have H : (some ((Go.bits .or .u64 (Go.bits .andNot .u64 (a0 : Int) 9223372036854775808) (Go.bits .and .u64 (a1 : Int) 9223372036854775808)).toNat)) = some r := h
 clear h
 obtain rfl := Option.some.inj H
 have hxf64bits_run_ := @f64bits_run
 have hxf64from_run_ := @f64from_run
 go_enter Tryd.func41, Tryd.ntmps41
 go_wp2
 go_ret
 exact ⟨by first | rfl | (simp; done) | (simp [*]; done), by repeat (first | exact Drawn0.refl _ | apply Drawn0.step)⟩

/-! ### math_normalize: function 69 -/
def math_normalize.f (a0 : Nat) : Option (Nat × Int) := (math_Abs.f a0).bind fun t332 => (if (FloatKind.f64.format.order t332 4503599627370496 == some Ordering.lt) = true then (if (floatBits .mul .f64 a0 4841369599423283200).isSome = true then (some ((floatBits .mul .f64 a0 4841369599423283200).getD 0, (-52))) else (none)) else (some (a0, 0)))
set_option maxHeartbeats 8000000 in
set_option maxRecDepth 100000 in
theorem math_normalize.calls (a0 : Nat) (r1 : Nat) (r2 : Int) (w : World) (h : math_normalize.f a0 = some (r1, r2)) :
  Calls Tryd.prog 69 #[.float .f64 a0] w fun e w' => e = .returned (.tuple #[.float .f64 r1, .int .i64 r2]) ∧ Drawn0 w w' := by
 have H : ((math_Abs.f a0).bind fun t332 => (if (FloatKind.f64.format.order t332 4503599627370496 == some Ordering.lt) = true then (if (floatBits .mul .f64 a0 4841369599423283200).isSome = true then (some ((floatBits .mul .f64 a0 4841369599423283200).getD 0, (-52))) else (none)) else (some (a0, 0)))) = some (r1, r2) := h
 clear h
 obtain ⟨t332, A20, H⟩ := Option.bind_eq_some_iff.mp H
 try dsimp only at H
 have A2 := Aside0.mk A20
 clear A20
 by_cases c3 : (FloatKind.f64.format.order t332 4503599627370496 == some Ordering.lt) = true
 ·rw [if_pos c3] at H
  have c3b0 : (FloatKind.f64.format.order t332 4503599627370496 == some Ordering.lt) = true := c3
  (try (have c3b1 : decide (FloatKind.f64.format.order t332 4503599627370496 = some Ordering.lt) = true := by simpa using c3))
  (try (have c3b2 : (FloatKind.f64.format.order t332 4503599627370496 == some Ordering.lt) = true := by simpa using c3))
  clear c3
  by_cases c4 : (floatBits .mul .f64 a0 4841369599423283200).isSome = true
  ·rw [if_pos c4] at H
   have c4b0 := eq_true c4
   have c4b1 : decide ((floatBits .mul .f64 a0 4841369599423283200).isSome = true) = true := decide_eq_true c4
   have c4f := fun (W_ : World) (T_ : TypeId) => run_float_some (P := Tryd.prog) W_ T_ c4
   clear c4
   simp only [Option.some.injEq, Prod.mk.injEq] at H
   obtain ⟨rfl, rfl⟩ := H
   go_enter Tryd.func69, Tryd.ntmps69
   go_wp2_with (first | ((with_reducible refine gate_callee (f := 58) rfl ?_); refine goesL_ (some 5) rfl rfl Tryd.func58 (by kernel_rfl) rfl #[.float .f64 a0] rfl qL ?_; (with_reducible refine (math_Abs.calls a0 t332 _ A2.out).mono ?_); rintro e w' ⟨rfl, ⟨nd, rfl⟩⟩; refine ⟨_, rfl, ?_⟩))
   go_ret2
   exact ⟨by first | rfl | (simp; done) | (simp [*]; done), by repeat (first | exact Drawn0.refl _ | apply Drawn0.step)⟩
  ·rw [if_neg c4] at H
   exact absurd H (by simp)
 ·rw [if_neg c3] at H
  have c3b0 : (FloatKind.f64.format.order t332 4503599627370496 == some Ordering.lt) = false := by simpa using c3
  (try (have c3b1 : decide (FloatKind.f64.format.order t332 4503599627370496 = some Ordering.lt) = false := by simpa using c3))
  (try (have c3b2 : (FloatKind.f64.format.order t332 4503599627370496 == some Ordering.lt) = false := by simpa using c3))
  (try (have c3b3 : ¬ (FloatKind.f64.format.order t332 4503599627370496 = some Ordering.lt) := by simpa using c3))
  clear c3
  simp only [Option.some.injEq, Prod.mk.injEq] at H
  obtain ⟨rfl, rfl⟩ := H
  go_enter Tryd.func69, Tryd.ntmps69
  go_wp2_with (first | ((with_reducible refine gate_callee (f := 58) rfl ?_); refine goesL_ (some 5) rfl rfl Tryd.func58 (by kernel_rfl) rfl #[.float .f64 a0] rfl qL ?_; (with_reducible refine (math_Abs.calls a0 t332 _ A2.out).mono ?_); rintro e w' ⟨rfl, ⟨nd, rfl⟩⟩; refine ⟨_, rfl, ?_⟩))
  go_ret2
  exact ⟨by first | rfl | (simp; done) | (simp [*]; done), by repeat (first | exact Drawn0.refl _ | apply Drawn0.step)⟩

/-! ### math_ldexp: function 57 -/
def math_ldexp.f (a0 : Nat) (a1 : Int) : Option (Nat) := if (FloatKind.f64.format.order a0 0 == some Ordering.eq) = true then (some a0) else ((math_IsInf.f a0 0).bind fun t333 => (if t333 = true then (none) else ((math_IsNaN.f a0).bind fun t334 => (if t334 = true then (none) else ((math_normalize.f a0).bind fun bt335 => (if (wrap64 ((wrap64 (a1 + bt335.2)) + (wrap64 ((Go.bits .and .i64 (wrap64 ((bt335.1 : Int) / 4503599627370496)) 2047) - 1023)))) < (-1075) then (none) else (if (wrap64 ((wrap64 (a1 + bt335.2)) + (wrap64 ((Go.bits .and .i64 (wrap64 ((bt335.1 : Int) / 4503599627370496)) 2047) - 1023)))) > 1023 then (none) else (if (wrap64 ((wrap64 (a1 + bt335.2)) + (wrap64 ((Go.bits .and .i64 (wrap64 ((bt335.1 : Int) / 4503599627370496)) 2047) - 1023)))) < (-1022) then (if (floatBits .mul .f64 4368491638549381120 ((Go.bits .or .u64 (Go.bits .andNot .u64 (bt335.1 : Int) 9218868437227405312) (IntKind.u64.wrap ((IntKind.u64.wrap (wrap64 ((wrap64 ((wrap64 ((wrap64 (a1 + bt335.2)) + (wrap64 ((Go.bits .and .i64 (wrap64 ((bt335.1 : Int) / 4503599627370496)) 2047) - 1023)))) + 53)) + 1023))) * 4503599627370496))).toNat)).isSome = true then (some ((floatBits .mul .f64 4368491638549381120 ((Go.bits .or .u64 (Go.bits .andNot .u64 (bt335.1 : Int) 9218868437227405312) (IntKind.u64.wrap ((IntKind.u64.wrap (wrap64 ((wrap64 ((wrap64 ((wrap64 (a1 + bt335.2)) + (wrap64 ((Go.bits .and .i64 (wrap64 ((bt335.1 : Int) / 4503599627370496)) 2047) - 1023)))) + 53)) + 1023))) * 4503599627370496))).toNat)).getD 0)) else (none)) else (if (floatBits .mul .f64 4607182418800017408 ((Go.bits .or .u64 (Go.bits .andNot .u64 (bt335.1 : Int) 9218868437227405312) (IntKind.u64.wrap ((IntKind.u64.wrap (wrap64 ((wrap64 ((wrap64 (a1 + bt335.2)) + (wrap64 ((Go.bits .and .i64 (wrap64 ((bt335.1 : Int) / 4503599627370496)) 2047) - 1023)))) + 1023))) * 4503599627370496))).toNat)).isSome = true then (some ((floatBits .mul .f64 4607182418800017408 ((Go.bits .or .u64 (Go.bits .andNot .u64 (bt335.1 : Int) 9218868437227405312) (IntKind.u64.wrap ((IntKind.u64.wrap (wrap64 ((wrap64 ((wrap64 (a1 + bt335.2)) + (wrap64 ((Go.bits .and .i64 (wrap64 ((bt335.1 : Int) / 4503599627370496)) 2047) - 1023)))) + 1023))) * 4503599627370496))).toNat)).getD 0)) else (none))))))))))
set_option maxHeartbeats 8000000 in
set_option maxRecDepth 100000 in
theorem math_ldexp.calls (a0 : Nat) (a1 : Int) (r : Nat) (w : World) (h : math_ldexp.f a0 a1 = some r) :
  Calls Tryd.prog 57 #[.float .f64 a0, .int .i64 a1] w fun e w' => e = .returned (.float .f64 r) ∧ Drawn0 w w' := by
 have H : (if (FloatKind.f64.format.order a0 0 == some Ordering.eq) = true then (some a0) else ((math_IsInf.f a0 0).bind fun t333 => (if t333 = true then (none) else ((math_IsNaN.f a0).bind fun t334 => (if t334 = true then (none) else ((math_normalize.f a0).bind fun bt335 => (if (wrap64 ((wrap64 (a1 + bt335.2)) + (wrap64 ((Go.bits .and .i64 (wrap64 ((bt335.1 : Int) / 4503599627370496)) 2047) - 1023)))) < (-1075) then (none) else (if (wrap64 ((wrap64 (a1 + bt335.2)) + (wrap64 ((Go.bits .and .i64 (wrap64 ((bt335.1 : Int) / 4503599627370496)) 2047) - 1023)))) > 1023 then (none) else (if (wrap64 ((wrap64 (a1 + bt335.2)) + (wrap64 ((Go.bits .and .i64 (wrap64 ((bt335.1 : Int) / 4503599627370496)) 2047) - 1023)))) < (-1022) then (if (floatBits .mul .f64 4368491638549381120 ((Go.bits .or .u64 (Go.bits .andNot .u64 (bt335.1 : Int) 9218868437227405312) (IntKind.u64.wrap ((IntKind.u64.wrap (wrap64 ((wrap64 ((wrap64 ((wrap64 (a1 + bt335.2)) + (wrap64 ((Go.bits .and .i64 (wrap64 ((bt335.1 : Int) / 4503599627370496)) 2047) - 1023)))) + 53)) + 1023))) * 4503599627370496))).toNat)).isSome = true then (some ((floatBits .mul .f64 4368491638549381120 ((Go.bits .or .u64 (Go.bits .andNot .u64 (bt335.1 : Int) 9218868437227405312) (IntKind.u64.wrap ((IntKind.u64.wrap (wrap64 ((wrap64 ((wrap64 ((wrap64 (a1 + bt335.2)) + (wrap64 ((Go.bits .and .i64 (wrap64 ((bt335.1 : Int) / 4503599627370496)) 2047) - 1023)))) + 53)) + 1023))) * 4503599627370496))).toNat)).getD 0)) else (none)) else (if (floatBits .mul .f64 4607182418800017408 ((Go.bits .or .u64 (Go.bits .andNot .u64 (bt335.1 : Int) 9218868437227405312) (IntKind.u64.wrap ((IntKind.u64.wrap (wrap64 ((wrap64 ((wrap64 (a1 + bt335.2)) + (wrap64 ((Go.bits .and .i64 (wrap64 ((bt335.1 : Int) / 4503599627370496)) 2047) - 1023)))) + 1023))) * 4503599627370496))).toNat)).isSome = true then (some ((floatBits .mul .f64 4607182418800017408 ((Go.bits .or .u64 (Go.bits .andNot .u64 (bt335.1 : Int) 9218868437227405312) (IntKind.u64.wrap ((IntKind.u64.wrap (wrap64 ((wrap64 ((wrap64 (a1 + bt335.2)) + (wrap64 ((Go.bits .and .i64 (wrap64 ((bt335.1 : Int) / 4503599627370496)) 2047) - 1023)))) + 1023))) * 4503599627370496))).toNat)).getD 0)) else (none))))))))))) = some r := h
 clear h
 by_cases c3 : (FloatKind.f64.format.order a0 0 == some Ordering.eq) = true
 ·rw [if_pos c3] at H
  have c3b0 : (FloatKind.f64.format.order a0 0 == some Ordering.eq) = true := c3
  (try (have c3b1 : decide (FloatKind.f64.format.order a0 0 = some Ordering.eq) = true := by simpa using c3))
  (try (have c3b2 : (FloatKind.f64.format.order a0 0 == some Ordering.eq) = true := by simpa using c3))
  clear c3
  obtain rfl := Option.some.inj H
  have hxf64bits_run_ := @f64bits_run
  have hxf64from_run_ := @f64from_run
  go_enter Tryd.func57, Tryd.ntmps57
  go_wp2
  go_ret
  exact ⟨by first | rfl | (simp; done) | (simp [*]; done), by repeat (first | exact Drawn0.refl _ | apply Drawn0.step)⟩
 ·rw [if_neg c3] at H
  have c3b0 : (FloatKind.f64.format.order a0 0 == some Ordering.eq) = false := by simpa using c3
  (try (have c3b1 : decide (FloatKind.f64.format.order a0 0 = some Ordering.eq) = false := by simpa using c3))
  (try (have c3b2 : (FloatKind.f64.format.order a0 0 == some Ordering.eq) = false := by simpa using c3))
  (try (have c3b3 : ¬ (FloatKind.f64.format.order a0 0 = some Ordering.eq) := by simpa using c3))
  clear c3
  obtain ⟨t333, A40, H⟩ := Option.bind_eq_some_iff.mp H
  try dsimp only at H
  have A4 := Aside0.mk A40
  clear A40
  by_cases c5 : t333 = true
  ·subst c5
   have H1 : (none) = some r := by rw [if_pos rfl] at H; exact H
   clear H
   have H := H1
   clear H1
   exact absurd H (by simp)
  ·replace c5 := Bool.eq_false_iff.mpr c5
   subst c5
   have H1 : ((math_IsNaN.f a0).bind fun t334 => (if t334 = true then (none) else ((math_normalize.f a0).bind fun bt335 => (if (wrap64 ((wrap64 (a1 + bt335.2)) + (wrap64 ((Go.bits .and .i64 (wrap64 ((bt335.1 : Int) / 4503599627370496)) 2047) - 1023)))) < (-1075) then (none) else (if (wrap64 ((wrap64 (a1 + bt335.2)) + (wrap64 ((Go.bits .and .i64 (wrap64 ((bt335.1 : Int) / 4503599627370496)) 2047) - 1023)))) > 1023 then (none) else (if (wrap64 ((wrap64 (a1 + bt335.2)) + (wrap64 ((Go.bits .and .i64 (wrap64 ((bt335.1 : Int) / 4503599627370496)) 2047) - 1023)))) < (-1022) then (if (floatBits .mul .f64 4368491638549381120 ((Go.bits .or .u64 (Go.bits .andNot .u64 (bt335.1 : Int) 9218868437227405312) (IntKind.u64.wrap ((IntKind.u64.wrap (wrap64 ((wrap64 ((wrap64 ((wrap64 (a1 + bt335.2)) + (wrap64 ((Go.bits .and .i64 (wrap64 ((bt335.1 : Int) / 4503599627370496)) 2047) - 1023)))) + 53)) + 1023))) * 4503599627370496))).toNat)).isSome = true then (some ((floatBits .mul .f64 4368491638549381120 ((Go.bits .or .u64 (Go.bits .andNot .u64 (bt335.1 : Int) 9218868437227405312) (IntKind.u64.wrap ((IntKind.u64.wrap (wrap64 ((wrap64 ((wrap64 ((wrap64 (a1 + bt335.2)) + (wrap64 ((Go.bits .and .i64 (wrap64 ((bt335.1 : Int) / 4503599627370496)) 2047) - 1023)))) + 53)) + 1023))) * 4503599627370496))).toNat)).getD 0)) else (none)) else (if (floatBits .mul .f64 4607182418800017408 ((Go.bits .or .u64 (Go.bits .andNot .u64 (bt335.1 : Int) 9218868437227405312) (IntKind.u64.wrap ((IntKind.u64.wrap (wrap64 ((wrap64 ((wrap64 (a1 + bt335.2)) + (wrap64 ((Go.bits .and .i64 (wrap64 ((bt335.1 : Int) / 4503599627370496)) 2047) - 1023)))) + 1023))) * 4503599627370496))).toNat)).isSome = true then (some ((floatBits .mul .f64 4607182418800017408 ((Go.bits .or .u64 (Go.bits .andNot .u64 (bt335.1 : Int) 9218868437227405312) (IntKind.u64.wrap ((IntKind.u64.wrap (wrap64 ((wrap64 ((wrap64 (a1 + bt335.2)) + (wrap64 ((Go.bits .and .i64 (wrap64 ((bt335.1 : Int) / 4503599627370496)) 2047) - 1023)))) + 1023))) * 4503599627370496))).toNat)).getD 0)) else (none)))))))) = some r := by rw [if_neg (show ¬ (false = true) by decide)] at H; exact H
   clear H
   have H := H1
   clear H1
   obtain ⟨t334, A60, H⟩ := Option.bind_eq_some_iff.mp H
   try dsimp only at H
   have A6 := Aside0.mk A60
   clear A60
   by_cases c7 : t334 = true
   ·subst c7
    have H1 : (none) = some r := by rw [if_pos rfl] at H; exact H
    clear H
    have H := H1
    clear H1
    exact absurd H (by simp)
   ·replace c7 := Bool.eq_false_iff.mpr c7
    subst c7
    have H1 : ((math_normalize.f a0).bind fun bt335 => (if (wrap64 ((wrap64 (a1 + bt335.2)) + (wrap64 ((Go.bits .and .i64 (wrap64 ((bt335.1 : Int) / 4503599627370496)) 2047) - 1023)))) < (-1075) then (none) else (if (wrap64 ((wrap64 (a1 + bt335.2)) + (wrap64 ((Go.bits .and .i64 (wrap64 ((bt335.1 : Int) / 4503599627370496)) 2047) - 1023)))) > 1023 then (none) else (if (wrap64 ((wrap64 (a1 + bt335.2)) + (wrap64 ((Go.bits .and .i64 (wrap64 ((bt335.1 : Int) / 4503599627370496)) 2047) - 1023)))) < (-1022) then (if (floatBits .mul .f64 4368491638549381120 ((Go.bits .or .u64 (Go.bits .andNot .u64 (bt335.1 : Int) 9218868437227405312) (IntKind.u64.wrap ((IntKind.u64.wrap (wrap64 ((wrap64 ((wrap64 ((wrap64 (a1 + bt335.2)) + (wrap64 ((Go.bits .and .i64 (wrap64 ((bt335.1 : Int) / 4503599627370496)) 2047) - 1023)))) + 53)) + 1023))) * 4503599627370496))).toNat)).isSome = true then (some ((floatBits .mul .f64 4368491638549381120 ((Go.bits .or .u64 (Go.bits .andNot .u64 (bt335.1 : Int) 9218868437227405312) (IntKind.u64.wrap ((IntKind.u64.wrap (wrap64 ((wrap64 ((wrap64 ((wrap64 (a1 + bt335.2)) + (wrap64 ((Go.bits .and .i64 (wrap64 ((bt335.1 : Int) / 4503599627370496)) 2047) - 1023)))) + 53)) + 1023))) * 4503599627370496))).toNat)).getD 0)) else (none)) else (if (floatBits .mul .f64 4607182418800017408 ((Go.bits .or .u64 (Go.bits .andNot .u64 (bt335.1 : Int) 9218868437227405312) (IntKind.u64.wrap ((IntKind.u64.wrap (wrap64 ((wrap64 ((wrap64 (a1 + bt335.2)) + (wrap64 ((Go.bits .and .i64 (wrap64 ((bt335.1 : Int) / 4503599627370496)) 2047) - 1023)))) + 1023))) * 4503599627370496))).toNat)).isSome = true then (some ((floatBits .mul .f64 4607182418800017408 ((Go.bits .or .u64 (Go.bits .andNot .u64 (bt335.1 : Int) 9218868437227405312) (IntKind.u64.wrap ((IntKind.u64.wrap (wrap64 ((wrap64 ((wrap64 (a1 + bt335.2)) + (wrap64 ((Go.bits .and .i64 (wrap64 ((bt335.1 : Int) / 4503599627370496)) 2047) - 1023)))) + 1023))) * 4503599627370496))).toNat)).getD 0)) else (none)))))) = some r := by rw [if_neg (show ¬ (false = true) by decide)] at H; exact H
    clear H
    have H := H1
    clear H1
    obtain ⟨⟨t335, t336⟩, A80, H⟩ := Option.bind_eq_some_iff.mp H
    try dsimp only at H
    have A8 := Aside0.mk A80
    clear A80
    by_cases c9 : (wrap64 ((wrap64 (a1 + t336)) + (wrap64 ((Go.bits .and .i64 (wrap64 ((t335 : Int) / 4503599627370496)) 2047) - 1023)))) < (-1075)
    ·rw [if_pos c9] at H
     exact absurd H (by simp)
    ·rw [if_neg c9] at H
     have c9b0 : decide ((wrap64 ((wrap64 (a1 + t336)) + (wrap64 ((Go.bits .and .i64 (wrap64 ((t335 : Int) / 4503599627370496)) 2047) - 1023)))) < (-1075)) = false := decide_eq_false c9
     clear c9
     by_cases c10 : (wrap64 ((wrap64 (a1 + t336)) + (wrap64 ((Go.bits .and .i64 (wrap64 ((t335 : Int) / 4503599627370496)) 2047) - 1023)))) > 1023
     ·rw [if_pos c10] at H
      exact absurd H (by simp)
     ·rw [if_neg c10] at H
      have c10b0 : decide (1023 < (wrap64 ((wrap64 (a1 + t336)) + (wrap64 ((Go.bits .and .i64 (wrap64 ((t335 : Int) / 4503599627370496)) 2047) - 1023))))) = false := decide_eq_false c10
      clear c10
      by_cases c11 : (wrap64 ((wrap64 (a1 + t336)) + (wrap64 ((Go.bits .and .i64 (wrap64 ((t335 : Int) / 4503599627370496)) 2047) - 1023)))) < (-1022)
      ·rw [if_pos c11] at H
       have c11b0 : decide ((wrap64 ((wrap64 (a1 + t336)) + (wrap64 ((Go.bits .and .i64 (wrap64 ((t335 : Int) / 4503599627370496)) 2047) - 1023)))) < (-1022)) = true := decide_eq_true c11
       clear c11
       by_cases c12 : (floatBits .mul .f64 4368491638549381120 ((Go.bits .or .u64 (Go.bits .andNot .u64 (t335 : Int) 9218868437227405312) (IntKind.u64.wrap ((IntKind.u64.wrap (wrap64 ((wrap64 ((wrap64 ((wrap64 (a1 + t336)) + (wrap64 ((Go.bits .and .i64 (wrap64 ((t335 : Int) / 4503599627370496)) 2047) - 1023)))) + 53)) + 1023))) * 4503599627370496))).toNat)).isSome = true
       ·rw [if_pos c12] at H
        have c12b0 := eq_true c12
        have c12b1 : decide ((floatBits .mul .f64 4368491638549381120 ((Go.bits .or .u64 (Go.bits .andNot .u64 (t335 : Int) 9218868437227405312) (IntKind.u64.wrap ((IntKind.u64.wrap (wrap64 ((wrap64 ((wrap64 ((wrap64 (a1 + t336)) + (wrap64 ((Go.bits .and .i64 (wrap64 ((t335 : Int) / 4503599627370496)) 2047) - 1023)))) + 53)) + 1023))) * 4503599627370496))).toNat)).isSome = true) = true := decide_eq_true c12
        have c12f := fun (W_ : World) (T_ : TypeId) => run_float_some (P := Tryd.prog) W_ T_ c12
        obtain rfl := Option.some.inj H
        have hxf64bits_run_ := @f64bits_run
        have hxf64from_run_ := @f64from_run
        go_enter Tryd.func57, Tryd.ntmps57
        go_wp2_with (first | ((with_reducible refine gate_callee (f := 31) rfl ?_); refine goesL_ (some 14) rfl rfl Tryd.func31 (by kernel_rfl) rfl #[.float .f64 a0, .int .i64 0] rfl qL ?_; (with_reducible refine (math_IsInf.calls a0 0 false _ A4.out).mono ?_); rintro e w' ⟨rfl, ⟨nd, rfl⟩⟩; refine ⟨_, rfl, ?_⟩) | (go_at_call 30; (with_reducible refine (math_IsNaN.calls a0 false _ A6.out).mono ?_); rintro e w' ⟨rfl, ⟨nd, rfl⟩⟩) | ((with_reducible refine gate_callee (f := 69) rfl ?_); refine goesL_ (some 22) rfl rfl Tryd.func69 (by kernel_rfl) rfl #[.float .f64 a0] rfl qL ?_; (with_reducible refine (math_normalize.calls a0 t335 t336 _ A8.out).mono ?_); rintro e w' ⟨rfl, ⟨nd, rfl⟩⟩; refine ⟨_, rfl, ?_⟩))
        go_ret
        exact ⟨by first | rfl | (simp; done) | (simp [*]; done), by repeat (first | exact Drawn0.refl _ | apply Drawn0.step)⟩
       ·rw [if_neg c12] at H
        exact absurd H (by simp)
      ·rw [if_neg c11] at H
       have c11b0 : decide ((wrap64 ((wrap64 (a1 + t336)) + (wrap64 ((Go.bits .and .i64 (wrap64 ((t335 : Int) / 4503599627370496)) 2047) - 1023)))) < (-1022)) = false := decide_eq_false c11
       clear c11
       by_cases c13 : (floatBits .mul .f64 4607182418800017408 ((Go.bits .or .u64 (Go.bits .andNot .u64 (t335 : Int) 9218868437227405312) (IntKind.u64.wrap ((IntKind.u64.wrap (wrap64 ((wrap64 ((wrap64 (a1 + t336)) + (wrap64 ((Go.bits .and .i64 (wrap64 ((t335 : Int) / 4503599627370496)) 2047) - 1023)))) + 1023))) * 4503599627370496))).toNat)).isSome = true
       ·rw [if_pos c13] at H
        have c13b0 := eq_true c13
        have c13b1 : decide ((floatBits .mul .f64 4607182418800017408 ((Go.bits .or .u64 (Go.bits .andNot .u64 (t335 : Int) 9218868437227405312) (IntKind.u64.wrap ((IntKind.u64.wrap (wrap64 ((wrap64 ((wrap64 (a1 + t336)) + (wrap64 ((Go.bits .and .i64 (wrap64 ((t335 : Int) / 4503599627370496)) 2047) - 1023)))) + 1023))) * 4503599627370496))).toNat)).isSome = true) = true := decide_eq_true c13
        have c13f := fun (W_ : World) (T_ : TypeId) => run_float_some (P := Tryd.prog) W_ T_ c13
        obtain rfl := Option.some.inj H
        have hxf64bits_run_ := @f64bits_run
        have hxf64from_run_ := @f64from_run
        go_enter Tryd.func57, Tryd.ntmps57
        go_wp2_with (first | ((with_reducible refine gate_callee (f := 31) rfl ?_); refine goesL_ (some 14) rfl rfl Tryd.func31 (by kernel_rfl) rfl #[.float .f64 a0, .int .i64 0] rfl qL ?_; (with_reducible refine (math_IsInf.calls a0 0 false _ A4.out).mono ?_); rintro e w' ⟨rfl, ⟨nd, rfl⟩⟩; refine ⟨_, rfl, ?_⟩) | (go_at_call 30; (with_reducible refine (math_IsNaN.calls a0 false _ A6.out).mono ?_); rintro e w' ⟨rfl, ⟨nd, rfl⟩⟩) | ((with_reducible refine gate_callee (f := 69) rfl ?_); refine goesL_ (some 22) rfl rfl Tryd.func69 (by kernel_rfl) rfl #[.float .f64 a0] rfl qL ?_; (with_reducible refine (math_normalize.calls a0 t335 t336 _ A8.out).mono ?_); rintro e w' ⟨rfl, ⟨nd, rfl⟩⟩; refine ⟨_, rfl, ?_⟩))
        go_ret
        exact ⟨by first | rfl | (simp; done) | (simp [*]; done), by repeat (first | exact Drawn0.refl _ | apply Drawn0.step)⟩
       ·rw [if_neg c13] at H
        exact absurd H (by simp)

/-! ### math_Ldexp: function 29 -/
def math_Ldexp.f (a0 : Nat) (a1 : Int) : Option (Nat) := (math_ldexp.f a0 a1).bind fun t337 => (some t337)
set_option maxHeartbeats 8000000 in
set_option maxRecDepth 100000 in
theorem math_Ldexp.calls (a0 : Nat) (a1 : Int) (r : Nat) (w : World) (h : math_Ldexp.f a0 a1 = some r) :
  Calls Tryd.prog 29 #[.float .f64 a0, .int .i64 a1] w fun e w' => e = .returned (.float .f64 r) ∧ Drawn0 w w' := by
 have H : ((math_ldexp.f a0 a1).bind fun t337 => (some t337)) = some r := h
 clear h
 obtain ⟨t337, A30, H⟩ := Option.bind_eq_some_iff.mp H
 try dsimp only at H
 have A3 := Aside0.mk A30
 clear A30
 obtain rfl := Option.some.inj H
 go_enter Tryd.func29, Tryd.ntmps29
 go_wp2_with (first | ((with_reducible refine gate_callee (f := 57) rfl ?_); refine goesL_ (some 10) rfl rfl Tryd.func57 (by kernel_rfl) rfl #[.float .f64 a0, .int .i64 a1] rfl qL ?_; (with_reducible refine (math_ldexp.calls a0 a1 t337 _ A3.out).mono ?_); rintro e w' ⟨rfl, ⟨nd, rfl⟩⟩; refine ⟨_, rfl, ?_⟩))
 go_ret
 exact ⟨by first | rfl | (simp; done) | (simp [*]; done), by repeat (first | exact Drawn0.refl _ | apply Drawn0.step)⟩

end Go.Proofs.YtamhiecepipnjaaDoor.GApproxNear
