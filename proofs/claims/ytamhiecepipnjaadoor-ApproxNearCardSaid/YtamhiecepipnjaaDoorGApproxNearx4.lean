-- Written by gprint (wip/gprint), this session's program over the kit's print. Not trusted: Lean checks it.
import Derived.Test.YtamhiecepipnjaaDoorGApproxNearx0
import Derived.Test.YtamhiecepipnjaaDoorGApproxNearx1
import Derived.Test.YtamhiecepipnjaaDoorGApproxNearx2
import Derived.Test.YtamhiecepipnjaaDoorGApproxNearx3
namespace Go.Proofs.YtamhiecepipnjaaDoor.GApproxNear
open Go.RowKit Go.Proofs.YtamhiecepipnjaaDoorW.PrintWords Go.Proofs.YtamhiecepipnjaaDoorW.PrintLast Go.Proofs.YtamhiecepipnjaaDoorW.PrintMore
attribute [local go_sem] max2_int min2_int max_two min_two max_three min_three max_four min_four   -- for this text's walks alone
set_option linter.unusedVariables false
set_option linter.unusedSimpArgs false

/-! ### nat_long: function 65 -/
def nat_long.l0 : Nat → Int → List Int → List Int → List Int → Int → Option (List Int × List Int)
 | 0, _, _, _, _, _ => none
 | k + 1, x6, x7, x8, x9, x10 => if x10 ≥ 0 then ((nat_guess.f k x7 x8 x10).bind fun t187 => ((nat_take.f k x7 x8 x10 t187).bind fun bt188 => (if bt188.1 = true then ((nat_give.f k bt188.2 x8 x10).bind fun t190 => (if 0 ≤ x10 then (if x10 < (x9.length : Int) then (nat_long.l0 k x6 t190 x8 (x9.set (x10 : Int).toNat ((IntKind.u64.wrap (t187 - 1)) % 4294967296)) (wrap64 (x10 - 1))) else (none)) else (none))) else (if 0 ≤ x10 then (if x10 < (x9.length : Int) then (nat_long.l0 k x6 bt188.2 x8 (x9.set (x10 : Int).toNat ((t187) % 4294967296)) (wrap64 (x10 - 1))) else (none)) else (none))))) else ((nat_trim.f k x9).bind fun t178 => ((nat_unshift.f k x7 x6).bind fun t181 => ((nat_trim.f k t181).bind fun t184 => (some (t178, t184)))))
def nat_long.f (k : Nat) (l0 : List Int) (l1 : List Int) : Option (List Int × List Int) := if 0 ≤ (wrap64 ((l1.length : Int) - 1)) then (if (wrap64 ((l1.length : Int) - 1)) < (l1.length : Int) then ((bits_LeadingZeros32.f (rd l1 (wrap64 ((l1.length : Int) - 1)))).bind fun t165 => ((nat_shift.f k l0 t165).bind fun t166 => ((nat_shift.f k l1 t165).bind fun t169 => (if 0 ≤ (l1.length : Int) then (if (l1.length : Int) ≤ (t169.length : Int) then (if 0 ≤ (wrap64 ((wrap64 ((l0.length : Int) - (l1.length : Int))) + 1)) then (if (wrap64 ((wrap64 ((l0.length : Int) - (l1.length : Int))) + 1) : Int).toNat ≤ 70368744177664 then ((some (List.replicate (wrap64 ((wrap64 ((l0.length : Int) - (l1.length : Int))) + 1) : Int).toNat 0 : List Int)).bind fun y175 => (nat_long.l0 k t165 t166 (t169.take ((l1.length : Int) : Int).toNat) y175 (wrap64 ((y175.length : Int) - 1)))) else (none)) else (none)) else (none)) else (none))))) else (none)) else (none)
theorem nat_long.mono_l : ∀ k, (∀ y0 y1 y2 y3 y4, LeO (nat_long.l0 k y0 y1 y2 y3 y4) (nat_long.l0 (k + 1) y0 y1 y2 y3 y4))
 | 0 => fun _ _ _ _ _ r h => by simp [nat_long.l0] at h
 | k + 1 => by
  have ih0 := nat_long.mono_l k
  ·intro y0 y1 y2 y3 y4
   unfold nat_long.l0
   repeat' first
   | (with_reducible exact ih0 _ _ _ _ _)
   | (with_reducible exact nat_give.mono _ _ _ _)
   | (with_reducible exact nat_guess.mono _ _ _ _)
   | (with_reducible exact nat_shift.mono _ _ _)
   | (with_reducible exact nat_take.mono _ _ _ _ _)
   | (with_reducible exact nat_trim.mono _ _)
   | (with_reducible exact nat_unshift.mono _ _ _)
   | (with_reducible exact LeO.refl _)
   | (with_reducible exact LeO.none _)
   | (with_reducible refine LeO.ite ?_ ?_)
   | (with_reducible refine LeO.bind ?_ (fun _ => ?_))
   | exact ih0 _ _ _ _ _
   | exact nat_give.mono _ _ _ _
   | exact nat_guess.mono _ _ _ _
   | exact nat_shift.mono _ _ _
   | exact nat_take.mono _ _ _ _ _
   | exact nat_trim.mono _ _
   | exact nat_unshift.mono _ _ _
   | exact LeO.none _
   | refine LeO.ite ?_ ?_
   | refine LeO.bind ?_ (fun _ => ?_)
theorem nat_long.mono : ∀ a0 a1 k, LeO (nat_long.f k a0 a1) (nat_long.f (k + 1) a0 a1) := by
 intro a0 a1 k
 have ih0 := nat_long.mono_l k
 unfold nat_long.f
 repeat' first
   | (with_reducible exact ih0 _ _ _ _ _)
   | (with_reducible exact nat_give.mono _ _ _ _)
   | (with_reducible exact nat_guess.mono _ _ _ _)
   | (with_reducible exact nat_shift.mono _ _ _)
   | (with_reducible exact nat_take.mono _ _ _ _ _)
   | (with_reducible exact nat_trim.mono _ _)
   | (with_reducible exact nat_unshift.mono _ _ _)
   | (with_reducible exact LeO.refl _)
   | (with_reducible exact LeO.none _)
   | (with_reducible refine LeO.ite ?_ ?_)
   | (with_reducible refine LeO.bind ?_ (fun _ => ?_))
   | exact ih0 _ _ _ _ _
   | exact nat_give.mono _ _ _ _
   | exact nat_guess.mono _ _ _ _
   | exact nat_shift.mono _ _ _
   | exact nat_take.mono _ _ _ _ _
   | exact nat_trim.mono _ _
   | exact nat_unshift.mono _ _ _
   | exact LeO.none _
   | refine LeO.ite ?_ ?_
   | refine LeO.bind ?_ (fun _ => ?_)
def nat_long.T2 : Bool × List (List Nat × List Nat) := (true, [([], []), ([], []), ([0, 1], [0, 1]), ([], []), ([], []), ([3, 4, 2], [3, 4]), ([], []), ([6], [6]), ([5, 7], [5, 7]), ([2, 5, 0, 1, 2], [2]), ([8, 9, 0, 1, 2, 3, 4, 5, 6, 7, 8, 9], [8])])
def nat_long.B2 : List Nat := [0, 0, 3, 0, 0, 31, 0, 64, 255, 63, 1023]
theorem nat_long.tab2 : rtab .any (opsOf Tryd.f65 2) = nat_long.T2 := by kernel_rfl
theorem nat_long.bits2 : waitsOk nat_long.T2.2 nat_long.B2 = true := by kernel_rfl
theorem nat_long.own_len {A : Option Addr} {n n' c c' k : Nat} (h : some k ≠ (Value.slice A n c).ownBlock) : some k ≠ (Value.slice A n' c').ownBlock := by cases A <;> exact h
set_option maxHeartbeats 8000000 in
set_option maxRecDepth 100000 in
theorem nat_long.calls (k : Nat) (A0 : Option Addr) (c0 : Nat) (l0 : List Int) (A1 : Option Addr) (c1 : Nat) (l1 : List Int) (r1 : List Int) (r2 : List Int) (w : World) (hr0 : Kd.C (Kd.int .u32) w A0 l0.length l0) (hc0 : l0.length ≤ c0) (hr1 : Kd.C (Kd.int .u32) w A1 l1.length l1) (hc1 : l1.length ≤ c1) (h : nat_long.f k l0 l1 = some (r1, r2)) :
  Calls Tryd.prog 65 #[.slice A0 l0.length c0, .slice A1 l1.length c1] w fun e w' => ∃ v0_ v1_ : Value, e = .returned (.tuple #[v0_, v1_]) ∧ Kd.R (Kd.int .u32) 47 w' w.heap.size (fun k_ => some k_ ≠ (v1_ : Value).ownBlock) v0_ r1 ∧ Kd.R (Kd.int .u32) 47 w' w.heap.size (fun k_ => some k_ ≠ (v0_ : Value).ownBlock) v1_ r2 ∧ Below w.heap.size w w' := by
 have HR0 := Aside0.mk hr0
 have HC0 := Aside0.mk hc0
 clear hr0 hc0
 have HR1 := Aside0.mk hr1
 have HC1 := Aside0.mk hc1
 clear hr1 hc1
 have HB := Aside0.mk (Below.refl w.heap.size w)
 have H : (if 0 ≤ (wrap64 ((l1.length : Int) - 1)) then (if (wrap64 ((l1.length : Int) - 1)) < (l1.length : Int) then ((bits_LeadingZeros32.f (rd l1 (wrap64 ((l1.length : Int) - 1)))).bind fun t165 => ((nat_shift.f k l0 t165).bind fun t166 => ((nat_shift.f k l1 t165).bind fun t169 => (if 0 ≤ (l1.length : Int) then (if (l1.length : Int) ≤ (t169.length : Int) then (if 0 ≤ (wrap64 ((wrap64 ((l0.length : Int) - (l1.length : Int))) + 1)) then (if (wrap64 ((wrap64 ((l0.length : Int) - (l1.length : Int))) + 1) : Int).toNat ≤ 70368744177664 then ((some (List.replicate (wrap64 ((wrap64 ((l0.length : Int) - (l1.length : Int))) + 1) : Int).toNat 0 : List Int)).bind fun y175 => (nat_long.l0 k t165 t166 (t169.take ((l1.length : Int) : Int).toNat) y175 (wrap64 ((y175.length : Int) - 1)))) else (none)) else (none)) else (none)) else (none))))) else (none)) else (none)) = some (r1, r2) := h
 clear h
 obtain ⟨ji3, hji3⟩ : ∃ j_ : Int, (wrap64 ((l1.length : Int) - 1)) = j_ := ⟨_, rfl⟩
 replace H : (if 0 ≤ (ji3) then (if (ji3) < (l1.length : Int) then ((bits_LeadingZeros32.f (rd l1 (ji3))).bind fun t165 => ((nat_shift.f k l0 t165).bind fun t166 => ((nat_shift.f k l1 t165).bind fun t169 => (if 0 ≤ (l1.length : Int) then (if (l1.length : Int) ≤ (t169.length : Int) then (if 0 ≤ (wrap64 ((wrap64 ((l0.length : Int) - (l1.length : Int))) + 1)) then (if (wrap64 ((wrap64 ((l0.length : Int) - (l1.length : Int))) + 1) : Int).toNat ≤ 70368744177664 then ((some (List.replicate (wrap64 ((wrap64 ((l0.length : Int) - (l1.length : Int))) + 1) : Int).toNat 0 : List Int)).bind fun y175 => (nat_long.l0 k t165 t166 (t169.take ((l1.length : Int) : Int).toNat) y175 (wrap64 ((y175.length : Int) - 1)))) else (none)) else (none)) else (none)) else (none))))) else (none)) else (none)) = some (r1, r2) := by first | (rw [hji3] at H; exact H) | (simp only [hji3] at H ⊢; exact H)
 have hji3w : (IntKind.i64.wrap ((l1.length : Int) - 1)) = ji3 := (i64_w _).trans hji3
 by_cases c4 : 0 ≤ (ji3)
 ·rw [if_pos c4] at H
  have c4b0 : decide (0 ≤ (ji3)) = true := decide_eq_true c4
  clear c4
  by_cases c5 : (ji3) < (l1.length : Int)
  ·rw [if_pos c5] at H
   have c5b0 : decide ((ji3) < (l1.length : Int)) = true := decide_eq_true c5
   clear c5
   obtain ⟨t165, A60, H⟩ := Option.bind_eq_some_iff.mp H
   try dsimp only at H
   have A6 := Aside0.mk A60
   clear A60
   obtain ⟨t166, A70, H⟩ := Option.bind_eq_some_iff.mp H
   try dsimp only at H
   have A7 := Aside0.mk A70
   clear A70
   obtain ⟨t169, A80, H⟩ := Option.bind_eq_some_iff.mp H
   try dsimp only at H
   have A8 := Aside0.mk A80
   clear A80
   by_cases c9 : 0 ≤ (l1.length : Int)
   ·rw [if_pos c9] at H
    have c9b0 := eq_true c9
    have c9b1 : decide (0 ≤ (l1.length : Int)) = true := decide_eq_true c9
    clear c9
    by_cases c10 : (l1.length : Int) ≤ (t169.length : Int)
    ·rw [if_pos c10] at H
     have c10b0 := eq_true c10
     have c10b1 : decide ((l1.length : Int) ≤ (t169.length : Int)) = true := decide_eq_true c10
     clear c10
     obtain ⟨y172, hy172⟩ : ∃ y_ : List Int, y_ = (t169.take ((l1.length : Int) : Int).toNat) := ⟨_, rfl⟩
     replace H : (if 0 ≤ (wrap64 ((wrap64 ((l0.length : Int) - (l1.length : Int))) + 1)) then (if (wrap64 ((wrap64 ((l0.length : Int) - (l1.length : Int))) + 1) : Int).toNat ≤ 70368744177664 then ((some (List.replicate (wrap64 ((wrap64 ((l0.length : Int) - (l1.length : Int))) + 1) : Int).toNat 0 : List Int)).bind fun y175 => (nat_long.l0 k t165 t166 y172 y175 (wrap64 ((y175.length : Int) - 1)))) else (none)) else (none)) = some (r1, r2) := by first | (rw [hy172]; with_reducible exact H) | (have H2_ := (Option.bind_some _ _).symm.trans H; rw [hy172]; with_reducible exact H2_) | (have H2_ := (Option.bind_some _ _).symm.trans H; with_reducible exact H2_) | with_reducible exact H | (rw [hy172]; exact H) | exact H
     have Ny172 := Aside0.mk hy172
     clear hy172
     obtain ⟨ji11, hji11⟩ : ∃ j_ : Int, (wrap64 ((wrap64 ((l0.length : Int) - (l1.length : Int))) + 1)) = j_ := ⟨_, rfl⟩
     replace H : (if 0 ≤ (ji11) then (if (ji11 : Int).toNat ≤ 70368744177664 then ((some (List.replicate (ji11 : Int).toNat 0 : List Int)).bind fun y175 => (nat_long.l0 k t165 t166 y172 y175 (wrap64 ((y175.length : Int) - 1)))) else (none)) else (none)) = some (r1, r2) := by first | (rw [hji11] at H; exact H) | (simp only [hji11] at H ⊢; exact H)
     (try rw [hji11] at A6)
     (try rw [hji11] at A7)
     (try rw [hji11] at A8)
     have hji11w : (IntKind.i64.wrap ((wrap64 ((l0.length : Int) - (l1.length : Int))) + 1)) = ji11 := (i64_w _).trans hji11
     by_cases c12 : 0 ≤ (ji11)
     ·rw [if_pos c12] at H
      have c12b0 := eq_true c12
      have c12b1 : decide (0 ≤ (ji11)) = true := decide_eq_true c12
      clear c12
      by_cases c13 : (ji11 : Int).toNat ≤ 70368744177664
      ·rw [if_pos c13] at H
       have c13b0 := eq_true c13
       have c13b1 : decide ((ji11 : Int).toNat ≤ 70368744177664) = true := decide_eq_true c13
       clear c13
       obtain ⟨y175, hy175⟩ : ∃ y_ : List Int, y_ = (List.replicate (ji11 : Int).toNat 0) := ⟨_, rfl⟩
       replace H : (nat_long.l0 k t165 t166 y172 y175 (wrap64 ((y175.length : Int) - 1))) = some (r1, r2) := by first | (rw [hy175]; with_reducible exact H) | (have H2_ := (Option.bind_some _ _).symm.trans H; rw [hy175]; with_reducible exact H2_) | (have H2_ := (Option.bind_some _ _).symm.trans H; with_reducible exact H2_) | with_reducible exact H | (rw [hy175]; exact H) | exact H
       have Ny175 := Aside0.mk hy175
       clear hy175
       have H' := Aside0.mk H
       clear H
       have p164 : 0 ≤ ((ji3) : Int) := of_decide_eq_true qA
       have q164 : (ji3) < (l1.length : Int) := of_decide_eq_true qA
       obtain ⟨ad164, e164, hx164_0⟩ := Kd.at_int HR1.out (ji3) p164 q164
       cases e164
       replace p164 := eq_true p164
       replace q164 := eq_true q164
       go_enter Tryd.func65, Tryd.ntmps65
       try go_wp2_with (first | ((with_reducible refine gate_callee (f := 70) rfl ?_); refine goesL_ (some 18) rfl rfl Tryd.func70 (by kernel_rfl) rfl #[.int .u32 (rd l1 (ji3))] rfl (by (try simp only [List.map_toArray, List.map_cons, List.map_nil]); first | done | (simp only [hji3]; rfl) | rfl | (simp only [List.length_drop, List.length_take]; rfl)) ?_; (with_reducible refine (bits_LeadingZeros32.calls (rd l1 (ji3)) t165 _ A6.out).mono ?_); rintro e w' ⟨rfl, ⟨nd, rfl⟩⟩; refine ⟨_, rfl, ?_⟩))
       (try (rw [drewN_self w]; generalize hq_ : World.drewN w _ = wq_; have n0_ := Aside0.mk (below_at hq_ HB.out); clear hq_ HB; have HB := n0_; clear n0_))
       have n0_ := Aside0.mk (below_drew1 HB.out)
       clear HB
       have HB := n0_
       clear n0_
       refine start_ (n := 11) (S := fun w' => True) (ds := []) #[false, false, false, false, false, false, false, false, false, false, false] (by kernel_rfl) rfl rfl trivial (fun hHeld => ?_); refine with_tabW nat_long.tab2 nat_long.bits2 (fun HT_ HW_ => ?_)
       first | generalize wq_.drew = w14 at HB hHeld ⊢ | generalize w.drew = w14 at HB hHeld ⊢
       refine qP 0 (some 19) ?_
       refine qP 1 (some 20) ?_
       refine qP 3 (some 22) ?_
       refine qP 4 (some 23) ?_
       refine qP 6 (some 25) ?_
       refine qP 7 (some 26) ?_
       refine one_ (i := 2) (N := some 21) #[true, true, true, true, true, false, true, true, false, false, false] rfl rfl (one_of HT_.out (by kernel_rfl)) (by decide) (fun K hK => ?_)
       refine goes_ Tryd.func71 (by kernel_rfl) rfl #[.slice A0 l0.length c0, .int .i64 t165] (by rfl) rfl rfl qL ?_
       with_reducible refine (nat_shift.calls k _ _ l0 t165 t166 _ ?side1 ?side2 A7.out).mono ?_
       (case side1 => exact qC (Kd.C_below HR0.out HB.out))
       (case side2 => exact HC0.out)
       rintro e w15 ⟨v167, rfl, ho0, hb⟩
       refine ⟨_, rfl, ?_⟩
       have n0_ := Aside0.mk (Kd.R_lower ho0 (below_size qB))
       have n1_ := Aside0.mk (below_step qB hb)
       clear HB
       have HO168 := n0_
       have HB := n1_
       clear n0_ n1_
       (try clear hb)
       (try clear hb2)
       (try clear hk)
       (try clear hi)
       (try clear ho0)
       refine hK.out _ _ trivial (fun hHeld => ?_)
       clear hK K
       refine norm_ (a' := ?_) ?_ ?_
       rotate_left
       ·show Act.put _ (some 21) _ = _
        simp only [Act.put, List.setIfInBounds_toArray, List.set_cons_zero, List.set_cons_succ, i64_w, i32_w]
        rfl
       refine one_ (i := 5) (N := some 24) #[true, true, true, true, true, true, true, true, false, false, false] rfl rfl (one_of HT_.out (by kernel_rfl)) (by decide) (fun K hK => ?_)
       refine goes_ Tryd.func71 (by kernel_rfl) rfl #[.slice (some ad164) l1.length c1, .int .i64 t165] (by rfl) rfl rfl qL ?_
       with_reducible refine (nat_shift.calls k _ _ l1 t165 t169 _ ?side1 ?side2 A8.out).mono ?_
       (case side1 => exact qC (Kd.C_below HR1.out HB.out))
       (case side2 => exact HC1.out)
       rintro e w16 ⟨v170, rfl, ho0, hb⟩
       refine ⟨_, rfl, ?_⟩
       have n0_ := Aside0.mk (Kd.R_elder' (qR HO168.out) (Kd.R_base ho0) hb)
       have n1_ := Aside0.mk (Kd.R_lower (Kd.R_new' ho0 (Kd.R_lt (qR HO168.out))) (below_size qB))
       have n2_ := Aside0.mk (below_step qB hb)
       clear HO168
       clear HB
       have HO168 := n0_
       have HO171 := n1_
       have HB := n2_
       clear n0_ n1_ n2_
       (try clear hb)
       (try clear hb2)
       (try clear hk)
       (try clear hi)
       (try clear ho0)
       obtain ⟨Ao17, co17, eo17⟩ := Kd.R_slice HO171.out
       (first | subst eo17 | (injection eo17 with f1_ f2_ f3_; have f4_ := f1_.symm; have f5_ := f3_.symm; clear f1_ f2_ f3_; subst f4_; subst f5_))
       have q18 : ((l1.length : Int) : Int) ≤ ((t169.length : Int) : Int) := of_decide_eq_true qA
       obtain ⟨i018, hi018, _, hsz18, _⟩ := info_parts info47
       have hcut18 := cut_to (P := Tryd.prog) 22 47 .i64 Tryd.underlying22 hi018 Ao17 t169.length co17 (l1.length : Int) (of_decide_eq_true qA) q18 (Kd.R_reads' HO171.out).2.1
       have hr18 := Kd.R_take (m := ((l1.length : Int) : Int).toNat) HO171.out (by omega)
       have hy18 : y172.length = ((l1.length : Int) : Int).toNat := (by rw [Ny172.out, List.length_take]; omega)
       rw [← Ny172.out] at hr18
       rw [← hy18] at hr18 hcut18
       clear hy18 hi018 hsz18 HO171
       have HO174 := Aside0.mk hr18
       clear hr18
       replace q18 := eq_true q18
       refine hK.out _ _ trivial (fun hHeld => ?_)
       clear hK K
       refine norm_ (a' := ?_) ?_ ?_
       rotate_left
       ·show Act.put _ (some 24) _ = _
        simp only [Act.put, List.setIfInBounds_toArray, List.set_cons_zero, List.set_cons_succ, i64_w, i32_w]
        rfl
       refine qP 8 (some 27) ?_
       refine qP 9 (some 7) ?_
       refine qP 10 (some 8) ?_
       refine done_ (done_of HT_.out (by kernel_rfl)) ?_
       try go_wp2_with (first | ((with_reducible refine gate_dst (N := 34) rfl ?_); refine Kd.R_make (Kd.int .u32) _ 47 rfl (N := 34) rfl 22 _ _ rfl ji11 rfl rfl Tryd.underlying22 (.int .u32 0) 4 info47 rfl (by decide) (by omega) 0 (ok := fun _ => True) (okp := fun _ => True) rfl (fun _ hk => hk) trivial (of_decide_eq_true qA) (Nat.le_trans (Nat.mul_le_mul_right _ (of_decide_eq_true qA : ji11.toNat ≤ 70368744177664)) (by omega)) (Below.refl _ _) (Nat.le_refl _) ?_; intro v176 w19 ho20 hb hg_ hnew_; clear hg_ hnew_; (first | rw [← Ny175.out] at ho20 | (simp only [Int.reduceToNat] at ho20; rw [← Ny175.out] at ho20)); have n0_ := Aside0.mk (Kd.R_elder' (qR HO168.out) (Kd.R_base ho20) hb); have n1_ := Aside0.mk (Kd.R_elder' (qR HO174.out) (Kd.R_base ho20) hb); have n2_ := Aside0.mk (Kd.R_lower (Kd.R_new' (Kd.R_new' ho20 (Kd.R_lt (qR HO168.out))) (Kd.R_lt (qR HO174.out))) (below_size qB)); have n3_ := Aside0.mk (below_step qB hb); clear HO168; clear HO174; clear HB; have HO168 := n0_; have HO174 := n1_; have HO177 := n2_; have HB := n3_; clear n0_ n1_ n2_ n3_; clear hb ho20; obtain ⟨Ao21, co21, eo21⟩ := Kd.R_slice HO177.out; subst eo21))
       go_loopg [10] k (fun kq v10 w' => ∃ (x7_1 : List Int) (x9_1 : List Int) (x10_1 : Int), v10 = .int .i64 x10_1 ∧ Aside0 (nat_long.l0 kq t165 x7_1 y172 x9_1 x10_1 = some (r1, r2)) ∧ Aside0 (kq ≤ k) ∧ Aside0 (Kd.R (Kd.int .u32) 47 w' w.heap.size (fun k_ => some k_ ≠ ((.slice Ao17 y172.length co17) : Value).ownBlock ∧ some k_ ≠ ((.slice Ao21 y175.length co21) : Value).ownBlock) v167 x7_1) ∧ Aside0 (Kd.R (Kd.int .u32) 47 w' w.heap.size (fun k_ => some k_ ≠ (v167 : Value).ownBlock ∧ some k_ ≠ ((.slice Ao21 y175.length co21) : Value).ownBlock) (.slice Ao17 y172.length co17) y172) ∧ Aside0 (Kd.R (Kd.int .u32) 47 w' w.heap.size (fun k_ => some k_ ≠ (v167 : Value).ownBlock ∧ some k_ ≠ ((.slice Ao17 y172.length co17) : Value).ownBlock) (.slice Ao21 y175.length co21) x9_1) ∧ Aside0 (Below w.heap.size w w'))
       case atStart => exact ⟨(t166), (y175), (wrap64 ((y175.length : Int) - 1)), (by first | rfl | (simp; done) | (simp [*]; done)), H', ⟨Nat.le_refl _⟩, ⟨by (with_reducible repeat (first | apply Kd.R_alloc | apply Kd.R_drewN | apply Kd.R_drew)); first | exact Kd.R_mono HO168.out (fun _ hk => ⟨hk.1.2, hk.2⟩) | exact Kd.R_mono HO168.out (fun _ hk => ⟨nat_long.own_len hk.1.2, hk.2⟩) | exact Kd.R_mono HO168.out (fun _ hk => ⟨hk.1.2, nat_long.own_len hk.2⟩) | exact Kd.R_mono HO168.out (fun _ hk => ⟨nat_long.own_len hk.1.2, nat_long.own_len hk.2⟩)⟩, ⟨by (with_reducible repeat (first | apply Kd.R_alloc | apply Kd.R_drewN | apply Kd.R_drew)); first | exact Kd.R_mono HO174.out (fun _ hk => ⟨hk.1.2, hk.2⟩) | exact Kd.R_mono HO174.out (fun _ hk => ⟨nat_long.own_len hk.1.2, hk.2⟩) | exact Kd.R_mono HO174.out (fun _ hk => ⟨hk.1.2, nat_long.own_len hk.2⟩) | exact Kd.R_mono HO174.out (fun _ hk => ⟨nat_long.own_len hk.1.2, nat_long.own_len hk.2⟩)⟩, ⟨by (with_reducible repeat (first | apply Kd.R_alloc | apply Kd.R_drewN | apply Kd.R_drew)); first | exact Kd.R_mono HO177.out (fun _ hk => ⟨hk.1.2, hk.2⟩) | exact Kd.R_mono HO177.out (fun _ hk => ⟨nat_long.own_len hk.1.2, hk.2⟩) | exact Kd.R_mono HO177.out (fun _ hk => ⟨hk.1.2, nat_long.own_len hk.2⟩) | exact Kd.R_mono HO177.out (fun _ hk => ⟨nat_long.own_len hk.1.2, nat_long.own_len hk.2⟩)⟩, ⟨qB⟩⟩
       case round =>
        clear H'
        try clear c1
        try clear p1
        try clear q1
        try clear hx1
        try clear p2
        try clear c4
        try clear c4b0
        try clear c5
        try clear c5b0
        try clear c6
        try clear p6
        try clear c7
        try clear c9
        try clear c9b0
        try clear c9b1
        try clear c10
        try clear c10b0
        try clear c10b1
        try clear c12
        try clear c12b0
        try clear c12b1
        try clear c13
        try clear c13b0
        try clear c13b1
        try clear p16
        try clear q16
        try clear hx16
        try clear q18
        try clear hx164_0
        try clear p164
        try clear q164
        try clear q18
        obtain ⟨x7_1, x9_1, x10_1, rfl, HA, HK1, HO_7, HO_8, HO_9, HB⟩ := hrel
        have hl9_1 := (Kd.R_reads' HO_9.out).1
        rw [hl9_1] at HO_9
        (try simp only [hl9_1])
        (try simp only [hl9_1] at HO_7)
        (try simp only [hl9_1] at HO_8)
        cases gk with
        | zero => exact absurd HA.out (by simp [nat_long.l0])
        | succ k1 =>
         have H := HA.out
         clear HA
         simp only [nat_long.l0] at H
         by_cases c22 : x10_1 ≥ 0
         ·rw [if_pos c22] at H
          have c22b0 : decide (0 ≤ x10_1) = true := decide_eq_true c22
          clear c22
          obtain ⟨t187, A230, H⟩ := Option.bind_eq_some_iff.mp H
          try dsimp only at H
          have A23 := Aside0.mk A230
          clear A230
          obtain ⟨⟨t188, t189⟩, A240, H⟩ := Option.bind_eq_some_iff.mp H
          try dsimp only at H
          have A24 := Aside0.mk A240
          clear A240
          by_cases c25 : t188 = true
          ·subst c25
           have H1 : ((nat_give.f k1 t189 y172 x10_1).bind fun t190 => (if 0 ≤ x10_1 then (if x10_1 < (x9_1.length : Int) then (nat_long.l0 k1 t165 t190 y172 (x9_1.set (x10_1 : Int).toNat ((IntKind.u64.wrap (t187 - 1)) % 4294967296)) (wrap64 (x10_1 - 1))) else (none)) else (none))) = some (r1, r2) := by rw [if_pos rfl] at H; exact H
           clear H
           have H := H1
           clear H1
           obtain ⟨t190, A260, H⟩ := Option.bind_eq_some_iff.mp H
           try dsimp only at H
           have A26 := Aside0.mk A260
           clear A260
           by_cases c27 : 0 ≤ x10_1
           ·rw [if_pos c27] at H
            have c27b0 : decide (0 ≤ x10_1) = true := decide_eq_true c27
            clear c27
            by_cases c28 : x10_1 < (x9_1.length : Int)
            ·rw [if_pos c28] at H
             have c28b0 : decide (x10_1 < (x9_1.length : Int)) = true := decide_eq_true c28
             have c28b0_h0 := c28b0
             (try simp only [hl9_1] at c28b0_h0)
             clear c28
             obtain ⟨y191, hy191⟩ : ∃ y_ : List Int, y_ = (x9_1.set (x10_1 : Int).toNat ((IntKind.u64.wrap (t187 - 1)) % 4294967296)) := ⟨_, rfl⟩
             replace H : (nat_long.l0 k1 t165 t190 y172 y191 (wrap64 (x10_1 - 1))) = some (r1, r2) := by first | (rw [hy191]; with_reducible exact H) | (have H2_ := (Option.bind_some _ _).symm.trans H; rw [hy191]; with_reducible exact H2_) | (have H2_ := (Option.bind_some _ _).symm.trans H; with_reducible exact H2_) | with_reducible exact H | (rw [hy191]; exact H) | exact H
             have Ny191 := Aside0.mk hy191
             clear hy191
             have H' := Aside0.mk H
             clear H
             obtain ⟨Ao30, co30, eo30⟩ := Kd.R_slice HO_7.out
             subst eo30
             go_wp2_with (first | ((with_reducible refine gate_callee (f := 72) rfl ?_); refine goesL_ (some 45) rfl rfl Tryd.func72 (by kernel_rfl) rfl #[.slice Ao30 x7_1.length co30, .slice Ao17 y172.length co17, .int .i64 x10_1] rfl qL ?_; (with_reducible refine (nat_guess.calls k1 _ _ x7_1 _ _ y172 x10_1 t187 _ ?side1 ?side2 ?side3 ?side4 A23.out).mono ?_); (case side1 => exact qC (Kd.R_reads' HO_7.out).2.2); (case side2 => exact (Kd.R_reads' HO_7.out).2.1); (case side3 => exact qC (Kd.R_reads' HO_8.out).2.2); (case side4 => exact (Kd.R_reads' HO_8.out).2.1); rintro e w' ⟨rfl, ⟨nd, rfl⟩⟩; refine ⟨_, rfl, ?_⟩; (try (rw [drewN_self wr]; generalize hq_ : World.drewN wr _ = wr; have n0_ : Aside0 (Kd.R (Kd.int .u32) 47 wr w.heap.size (fun k_ => some k_ ≠ (.slice Ao17 y172.length co17 : Value).ownBlock ∧ some k_ ≠ (.slice Ao21 x9_1.length co21 : Value).ownBlock) (.slice Ao30 x7_1.length co30) x7_1) := ⟨by rw [← hq_]; exact (qR HO_7.out)⟩; have n1_ : Aside0 (Kd.R (Kd.int .u32) 47 wr w.heap.size (fun k_ => some k_ ≠ (.slice Ao30 x7_1.length co30 : Value).ownBlock ∧ some k_ ≠ (.slice Ao21 x9_1.length co21 : Value).ownBlock) (.slice Ao17 y172.length co17) y172) := ⟨by rw [← hq_]; exact (qR HO_8.out)⟩; have n2_ : Aside0 (Kd.R (Kd.int .u32) 47 wr w.heap.size (fun k_ => some k_ ≠ (.slice Ao30 x7_1.length co30 : Value).ownBlock ∧ some k_ ≠ (.slice Ao17 y172.length co17 : Value).ownBlock) (.slice Ao21 x9_1.length co21) x9_1) := ⟨by rw [← hq_]; exact (qR HO_9.out)⟩; have n3_ : Aside0 (Below w.heap.size w wr) := ⟨by rw [← hq_]; exact qB⟩; clear HO_7 HO_8 HO_9 HB hq_; have HO_7 := n0_; have HO_8 := n1_; have HO_9 := n2_; have HB := n3_; clear n0_ n1_ n2_ n3_))) | ((with_reducible refine gate_callee (f := 73) rfl ?_); refine goesL_ (some 50) rfl rfl Tryd.func73 (by kernel_rfl) rfl #[.slice Ao30 x7_1.length co30, .slice Ao17 y172.length co17, .int .i64 x10_1, .int .u64 t187] rfl qL ?_; (with_reducible refine (nat_take.calls k1 (fun k_ => some k_ = (.slice Ao30 x7_1.length co30 : Value).ownBlock) (.slice Ao30 x7_1.length co30) x7_1 _ _ y172 x10_1 t187 true t189 w _ ?side1 ?side2 ?side3 ?side4 A24.out).mono ?_); (case side1 => exact qB); (case side2 => exact Kd.R_tight rfl HO_7.out); (case side3 => exact Kd.C_kept_own (HO_8.out) (fun k_ hk_ hs_ => (hk_.1) hs_)); (case side4 => exact (Kd.R_reads' HO_8.out).2.1); rintro e w31 ⟨rfl, hy0, hb, hkp⟩; refine ⟨_, rfl, ?_⟩; have n0_ := Aside0.mk (Kd.R_reok rfl hy0 (fun k_ e_ => HO_7.out.1 k_ e_)); have n1_ := Aside0.mk (Kd.R_mono (ok' := fun k_ => some k_ ≠ (.slice Ao30 x7_1.length co30 : Value).ownBlock ∧ some k_ ≠ (.slice Ao21 x9_1.length co21 : Value).ownBlock) (Kd.R_keptB (HO_8.out) hkp (fun k_ hk_ hs_ => (hk_.1) hs_)) (fun k_ hk_ => ⟨hk_.1.1, hk_.1.2⟩)); have n2_ := Aside0.mk (Kd.R_mono (ok' := fun k_ => some k_ ≠ (.slice Ao30 x7_1.length co30 : Value).ownBlock ∧ some k_ ≠ (.slice Ao17 y172.length co17 : Value).ownBlock) (Kd.R_keptB (HO_9.out) hkp (fun k_ hk_ hs_ => (hk_.1) hs_)) (fun k_ hk_ => ⟨hk_.1.1, hk_.1.2⟩)); have n3_ := Aside0.mk (hb); clear HO_7; clear HO_8; clear HO_9; clear HB; have HO_7 := n0_; have HO_8 := n1_; have HO_9 := n2_; have HB := n3_; clear n0_ n1_ n2_ n3_; (try clear hb); (try clear hkp); (try clear hy0)) | ((with_reducible refine gate_callee (f := 74) rfl ?_); refine goesL_ (some 56) rfl rfl Tryd.func74 (by kernel_rfl) rfl #[.slice Ao30 x7_1.length co30, .slice Ao17 y172.length co17, .int .i64 x10_1] rfl qL ?_; (with_reducible refine (nat_give.calls k1 (fun k_ => some k_ = (.slice Ao30 x7_1.length co30 : Value).ownBlock) (.slice Ao30 x7_1.length co30) t189 _ _ y172 x10_1 t190 w _ ?side1 ?side2 ?side3 ?side4 A26.out).mono ?_); (case side1 => exact qB); (case side2 => exact Kd.R_tight rfl HO_7.out); (case side3 => exact Kd.C_kept_own (HO_8.out) (fun k_ hk_ hs_ => (hk_.1) hs_)); (case side4 => exact (Kd.R_reads' HO_8.out).2.1); rintro e w32 ⟨rfl, hy0, hb, hkp⟩; refine ⟨_, rfl, ?_⟩; have n0_ := Aside0.mk (Kd.R_reok rfl hy0 (fun k_ e_ => HO_7.out.1 k_ e_)); have n1_ := Aside0.mk (Kd.R_mono (ok' := fun k_ => some k_ ≠ (.slice Ao30 x7_1.length co30 : Value).ownBlock ∧ some k_ ≠ (.slice Ao21 x9_1.length co21 : Value).ownBlock) (Kd.R_keptB (HO_8.out) hkp (fun k_ hk_ hs_ => (hk_.1) hs_)) (fun k_ hk_ => ⟨hk_.1.1, hk_.1.2⟩)); have n2_ := Aside0.mk (Kd.R_mono (ok' := fun k_ => some k_ ≠ (.slice Ao30 x7_1.length co30 : Value).ownBlock ∧ some k_ ≠ (.slice Ao17 y172.length co17 : Value).ownBlock) (Kd.R_keptB (HO_9.out) hkp (fun k_ hk_ hs_ => (hk_.1) hs_)) (fun k_ hk_ => ⟨hk_.1.1, hk_.1.2⟩)); have n3_ := Aside0.mk (hb); clear HO_7; clear HO_8; clear HO_9; clear HB; have HO_7 := n0_; have HO_8 := n1_; have HO_9 := n2_; have HB := n3_; clear n0_ n1_ n2_ n3_; (try clear hb); (try clear hkp); (try clear hy0); have p29 : 0 ≤ (x10_1 : Int) := of_decide_eq_true qA; have q29 : (x10_1 : Int) < ((x9_1.length : Int) : Int) := of_decide_eq_true qA; obtain ⟨go29, co29, eo29, gb29, gl29, cl29, HG29⟩ := Kd.R_form HO_9.out (by omega); (first | cases eo29 | (injection eo29 with ea_ en_ ec_; (first | subst ea_ | (injection ea_ with ea_; subst ea_)); subst ec_; clear en_)); have GB29 := Aside0.mk gb29; have GG29 := Aside0.mk HG29; clear gb29 gl29 HG29; obtain ⟨hx29_0, hf29_0⟩ := Kd.R_celln 0 HO_9.out (x10_1 : Int) p29 q29; replace p29 := eq_true p29; replace q29 := eq_true q29; obtain ⟨hy33_, hz33_⟩ := Kd.R_celln 0 HO_9.out (x10_1 : Int) (of_decide_eq_true qA) (of_decide_eq_true qA); have HP33 := Kd.R_putg HO_9.out (x10_1 : Int) ((IntKind.u64.wrap (t187 - 1)) % 4294967296)) | ((with_reducible refine gate_store (t := 47) (p := 61) rfl ?_); refine store_event (t := 47) (p := 61) (v := ?vo_w34) (w1 := (w32.setCell ⟨go29, (x10_1 : Int).toNat, none⟩ (.int .u32 ((IntKind.u64.wrap (t187 - 1)) % 4294967296)))) ?hg ?ho ?hn ?hr ?_; (case ho => rfl); (case hg => rfl); (case hn => rfl); (case hr => first | (go_simp; done) | (go_simp; rfl)); intro w34 hw; have hg : w32.grownBy w34 (some go29) := (by rw [hw]; exact HP33.2); have hp_ : Kd.R (Kd.int .u32) 47 w34 w.heap.size (fun k_ => some k_ ≠ (.slice Ao30 x7_1.length co30 : Value).ownBlock ∧ some k_ ≠ (.slice Ao17 y172.length co17 : Value).ownBlock) (.slice (some ⟨go29, 0, none⟩) x9_1.length co21) y191 := (by rw [hw, Ny191.out]; exact HP33.1); clear HP33; have n0_ := Aside0.mk (Kd.R_after (v := (.slice (some ⟨go29, 0, none⟩) x9_1.length co21)) (v1 := (.slice (some ⟨go29, 0, none⟩) x9_1.length co21)) (ok := (fun k_ => some k_ ≠ (.slice Ao17 y172.length co17 : Value).ownBlock)) (qR HO_7.out) hg (.inl rfl)); have n1_ := Aside0.mk (Kd.R_after (v := (.slice (some ⟨go29, 0, none⟩) x9_1.length co21)) (v1 := (.slice (some ⟨go29, 0, none⟩) x9_1.length co21)) (ok := (fun k_ => some k_ ≠ (.slice Ao30 x7_1.length co30 : Value).ownBlock)) (qR HO_8.out) hg (.inl rfl)); have n2_ := Aside0.mk (hp_); have n3_ := Aside0.mk ((by rw [hw]; exact below_set (HB.out) GB29.out : Below w.heap.size w w34)); clear HO_7; clear HO_8; clear HO_9; clear HB; have HO_7 := n0_; have HO_8 := n1_; have HO_9 := n2_; have HB := n3_; clear n0_ n1_ n2_ n3_; clear hg hw hp_))
             (try simp only [← hl9_1])
             go_roundg k1
             case measure => have := HK1.out; omega
             case rel => exact ⟨(t190), (y191), (wrap64 (x10_1 - 1)), (by first | rfl | (simp; done) | (simp [*]; done)), H', ⟨by have := HK1.out; omega⟩, ⟨by (try simp only [hl9_1]); (with_reducible repeat (first | apply Kd.R_alloc | apply Kd.R_drewN | apply Kd.R_drew)); exact HO_7.out⟩, ⟨by (try simp only [hl9_1]); (with_reducible repeat (first | apply Kd.R_alloc | apply Kd.R_drewN | apply Kd.R_drew)); exact HO_8.out⟩, ⟨by (try simp only [hl9_1]); (with_reducible repeat (first | apply Kd.R_alloc | apply Kd.R_drewN | apply Kd.R_drew)); exact HO_9.out⟩, ⟨qB⟩⟩
            ·rw [if_neg c28] at H
             exact absurd H (by simp)
           ·rw [if_neg c27] at H
            exact absurd H (by simp)
          ·replace c25 := Bool.eq_false_iff.mpr c25
           subst c25
           have H1 : (if 0 ≤ x10_1 then (if x10_1 < (x9_1.length : Int) then (nat_long.l0 k1 t165 t189 y172 (x9_1.set (x10_1 : Int).toNat ((t187) % 4294967296)) (wrap64 (x10_1 - 1))) else (none)) else (none)) = some (r1, r2) := by rw [if_neg (show ¬ (false = true) by decide)] at H; exact H
           clear H
           have H := H1
           clear H1
           by_cases c35 : 0 ≤ x10_1
           ·rw [if_pos c35] at H
            have c35b0 : decide (0 ≤ x10_1) = true := decide_eq_true c35
            clear c35
            by_cases c36 : x10_1 < (x9_1.length : Int)
            ·rw [if_pos c36] at H
             have c36b0 : decide (x10_1 < (x9_1.length : Int)) = true := decide_eq_true c36
             have c36b0_h0 := c36b0
             (try simp only [hl9_1] at c36b0_h0)
             clear c36
             obtain ⟨y192, hy192⟩ : ∃ y_ : List Int, y_ = (x9_1.set (x10_1 : Int).toNat ((t187) % 4294967296)) := ⟨_, rfl⟩
             replace H : (nat_long.l0 k1 t165 t189 y172 y192 (wrap64 (x10_1 - 1))) = some (r1, r2) := by first | (rw [hy192]; with_reducible exact H) | (have H2_ := (Option.bind_some _ _).symm.trans H; rw [hy192]; with_reducible exact H2_) | (have H2_ := (Option.bind_some _ _).symm.trans H; with_reducible exact H2_) | with_reducible exact H | (rw [hy192]; exact H) | exact H
             have Ny192 := Aside0.mk hy192
             clear hy192
             have H' := Aside0.mk H
             clear H
             obtain ⟨Ao38, co38, eo38⟩ := Kd.R_slice HO_7.out
             subst eo38
             go_wp2_with (first | ((with_reducible refine gate_callee (f := 72) rfl ?_); refine goesL_ (some 45) rfl rfl Tryd.func72 (by kernel_rfl) rfl #[.slice Ao38 x7_1.length co38, .slice Ao17 y172.length co17, .int .i64 x10_1] rfl qL ?_; (with_reducible refine (nat_guess.calls k1 _ _ x7_1 _ _ y172 x10_1 t187 _ ?side1 ?side2 ?side3 ?side4 A23.out).mono ?_); (case side1 => exact qC (Kd.R_reads' HO_7.out).2.2); (case side2 => exact (Kd.R_reads' HO_7.out).2.1); (case side3 => exact qC (Kd.R_reads' HO_8.out).2.2); (case side4 => exact (Kd.R_reads' HO_8.out).2.1); rintro e w' ⟨rfl, ⟨nd, rfl⟩⟩; refine ⟨_, rfl, ?_⟩; (try (rw [drewN_self wr]; generalize hq_ : World.drewN wr _ = wr; have n0_ : Aside0 (Kd.R (Kd.int .u32) 47 wr w.heap.size (fun k_ => some k_ ≠ (.slice Ao17 y172.length co17 : Value).ownBlock ∧ some k_ ≠ (.slice Ao21 x9_1.length co21 : Value).ownBlock) (.slice Ao38 x7_1.length co38) x7_1) := ⟨by rw [← hq_]; exact (qR HO_7.out)⟩; have n1_ : Aside0 (Kd.R (Kd.int .u32) 47 wr w.heap.size (fun k_ => some k_ ≠ (.slice Ao38 x7_1.length co38 : Value).ownBlock ∧ some k_ ≠ (.slice Ao21 x9_1.length co21 : Value).ownBlock) (.slice Ao17 y172.length co17) y172) := ⟨by rw [← hq_]; exact (qR HO_8.out)⟩; have n2_ : Aside0 (Kd.R (Kd.int .u32) 47 wr w.heap.size (fun k_ => some k_ ≠ (.slice Ao38 x7_1.length co38 : Value).ownBlock ∧ some k_ ≠ (.slice Ao17 y172.length co17 : Value).ownBlock) (.slice Ao21 x9_1.length co21) x9_1) := ⟨by rw [← hq_]; exact (qR HO_9.out)⟩; have n3_ : Aside0 (Below w.heap.size w wr) := ⟨by rw [← hq_]; exact qB⟩; clear HO_7 HO_8 HO_9 HB hq_; have HO_7 := n0_; have HO_8 := n1_; have HO_9 := n2_; have HB := n3_; clear n0_ n1_ n2_ n3_))) | ((with_reducible refine gate_callee (f := 73) rfl ?_); refine goesL_ (some 50) rfl rfl Tryd.func73 (by kernel_rfl) rfl #[.slice Ao38 x7_1.length co38, .slice Ao17 y172.length co17, .int .i64 x10_1, .int .u64 t187] rfl qL ?_; (with_reducible refine (nat_take.calls k1 (fun k_ => some k_ = (.slice Ao38 x7_1.length co38 : Value).ownBlock) (.slice Ao38 x7_1.length co38) x7_1 _ _ y172 x10_1 t187 false t189 w _ ?side1 ?side2 ?side3 ?side4 A24.out).mono ?_); (case side1 => exact qB); (case side2 => exact Kd.R_tight rfl HO_7.out); (case side3 => exact Kd.C_kept_own (HO_8.out) (fun k_ hk_ hs_ => (hk_.1) hs_)); (case side4 => exact (Kd.R_reads' HO_8.out).2.1); rintro e w39 ⟨rfl, hy0, hb, hkp⟩; refine ⟨_, rfl, ?_⟩; have n0_ := Aside0.mk (Kd.R_reok rfl hy0 (fun k_ e_ => HO_7.out.1 k_ e_)); have n1_ := Aside0.mk (Kd.R_mono (ok' := fun k_ => some k_ ≠ (.slice Ao38 x7_1.length co38 : Value).ownBlock ∧ some k_ ≠ (.slice Ao21 x9_1.length co21 : Value).ownBlock) (Kd.R_keptB (HO_8.out) hkp (fun k_ hk_ hs_ => (hk_.1) hs_)) (fun k_ hk_ => ⟨hk_.1.1, hk_.1.2⟩)); have n2_ := Aside0.mk (Kd.R_mono (ok' := fun k_ => some k_ ≠ (.slice Ao38 x7_1.length co38 : Value).ownBlock ∧ some k_ ≠ (.slice Ao17 y172.length co17 : Value).ownBlock) (Kd.R_keptB (HO_9.out) hkp (fun k_ hk_ hs_ => (hk_.1) hs_)) (fun k_ hk_ => ⟨hk_.1.1, hk_.1.2⟩)); have n3_ := Aside0.mk (hb); clear HO_7; clear HO_8; clear HO_9; clear HB; have HO_7 := n0_; have HO_8 := n1_; have HO_9 := n2_; have HB := n3_; clear n0_ n1_ n2_ n3_; (try clear hb); (try clear hkp); (try clear hy0); have p37 : 0 ≤ (x10_1 : Int) := of_decide_eq_true qA; have q37 : (x10_1 : Int) < ((x9_1.length : Int) : Int) := of_decide_eq_true qA; obtain ⟨go37, co37, eo37, gb37, gl37, cl37, HG37⟩ := Kd.R_form HO_9.out (by omega); (first | cases eo37 | (injection eo37 with ea_ en_ ec_; (first | subst ea_ | (injection ea_ with ea_; subst ea_)); subst ec_; clear en_)); have GB37 := Aside0.mk gb37; have GG37 := Aside0.mk HG37; clear gb37 gl37 HG37; obtain ⟨hx37_0, hf37_0⟩ := Kd.R_celln 0 HO_9.out (x10_1 : Int) p37 q37; replace p37 := eq_true p37; replace q37 := eq_true q37; obtain ⟨hy40_, hz40_⟩ := Kd.R_celln 0 HO_9.out (x10_1 : Int) (of_decide_eq_true qA) (of_decide_eq_true qA); have HP40 := Kd.R_putg HO_9.out (x10_1 : Int) ((t187) % 4294967296)) | ((with_reducible refine gate_store (t := 47) (p := 61) rfl ?_); refine store_event (t := 47) (p := 61) (v := ?vo_w41) (w1 := (w39.setCell ⟨go37, (x10_1 : Int).toNat, none⟩ (.int .u32 ((t187) % 4294967296)))) ?hg ?ho ?hn ?hr ?_; (case ho => rfl); (case hg => rfl); (case hn => rfl); (case hr => first | (go_simp; done) | (go_simp; rfl)); intro w41 hw; have hg : w39.grownBy w41 (some go37) := (by rw [hw]; exact HP40.2); have hp_ : Kd.R (Kd.int .u32) 47 w41 w.heap.size (fun k_ => some k_ ≠ (.slice Ao38 x7_1.length co38 : Value).ownBlock ∧ some k_ ≠ (.slice Ao17 y172.length co17 : Value).ownBlock) (.slice (some ⟨go37, 0, none⟩) x9_1.length co21) y192 := (by rw [hw, Ny192.out]; exact HP40.1); clear HP40; have n0_ := Aside0.mk (Kd.R_after (v := (.slice (some ⟨go37, 0, none⟩) x9_1.length co21)) (v1 := (.slice (some ⟨go37, 0, none⟩) x9_1.length co21)) (ok := (fun k_ => some k_ ≠ (.slice Ao17 y172.length co17 : Value).ownBlock)) (qR HO_7.out) hg (.inl rfl)); have n1_ := Aside0.mk (Kd.R_after (v := (.slice (some ⟨go37, 0, none⟩) x9_1.length co21)) (v1 := (.slice (some ⟨go37, 0, none⟩) x9_1.length co21)) (ok := (fun k_ => some k_ ≠ (.slice Ao38 x7_1.length co38 : Value).ownBlock)) (qR HO_8.out) hg (.inl rfl)); have n2_ := Aside0.mk (hp_); have n3_ := Aside0.mk ((by rw [hw]; exact below_set (HB.out) GB37.out : Below w.heap.size w w41)); clear HO_7; clear HO_8; clear HO_9; clear HB; have HO_7 := n0_; have HO_8 := n1_; have HO_9 := n2_; have HB := n3_; clear n0_ n1_ n2_ n3_; clear hg hw hp_))
             (try simp only [← hl9_1])
             go_roundg k1
             case measure => have := HK1.out; omega
             case rel => exact ⟨(t189), (y192), (wrap64 (x10_1 - 1)), (by first | rfl | (simp; done) | (simp [*]; done)), H', ⟨by have := HK1.out; omega⟩, ⟨by (try simp only [hl9_1]); (with_reducible repeat (first | apply Kd.R_alloc | apply Kd.R_drewN | apply Kd.R_drew)); exact HO_7.out⟩, ⟨by (try simp only [hl9_1]); (with_reducible repeat (first | apply Kd.R_alloc | apply Kd.R_drewN | apply Kd.R_drew)); exact HO_8.out⟩, ⟨by (try simp only [hl9_1]); (with_reducible repeat (first | apply Kd.R_alloc | apply Kd.R_drewN | apply Kd.R_drew)); exact HO_9.out⟩, ⟨qB⟩⟩
            ·rw [if_neg c36] at H
             exact absurd H (by simp)
           ·rw [if_neg c35] at H
            exact absurd H (by simp)
         ·rw [if_neg c22] at H
          have c22b0 : decide (0 ≤ x10_1) = false := decide_eq_false c22
          clear c22
          obtain ⟨t178, A420, H⟩ := Option.bind_eq_some_iff.mp H
          try dsimp only at H
          have A42 := Aside0.mk A420
          clear A420
          obtain ⟨t181, A430, H⟩ := Option.bind_eq_some_iff.mp H
          try dsimp only at H
          have A43 := Aside0.mk A430
          clear A430
          obtain ⟨t184, A440, H⟩ := Option.bind_eq_some_iff.mp H
          try dsimp only at H
          have A44 := Aside0.mk A440
          clear A440
          simp only [Option.some.injEq, Prod.mk.injEq] at H
          obtain ⟨rfl, rfl⟩ := H
          go_wp2_with (first | ((with_reducible refine gate_callee (f := 61) rfl ?_); refine goesL_ (some 63) rfl rfl Tryd.func61 (by kernel_rfl) rfl #[.slice Ao21 x9_1.length co21] rfl qL ?_; (with_reducible refine (nat_trim.calls k1 (fun k_ => some k_ = (.slice Ao21 x9_1.length co21 : Value).ownBlock) (.slice Ao21 x9_1.length co21) x9_1 t178 w _ ?side1 ?side2 A42.out).mono ?_); (case side1 => exact qB); (case side2 => exact Kd.R_tight rfl HO_9.out); rintro e w45 ⟨v179, rfl, ho0, hb, hkp⟩; refine ⟨_, rfl, ?_⟩; have n0_ := Aside0.mk (Kd.R_mono (ok' := fun k_ => some k_ ≠ (.slice Ao17 y172.length co17 : Value).ownBlock ∧ some k_ ≠ (v179 : Value).ownBlock) (Kd.R_keptB (HO_7.out) hkp (fun k_ hk_ hs_ => (hk_.2) hs_)) (fun k_ hk_ => ⟨hk_.1.1, fun e_ => Or.elim (ho0.1 k_ e_.symm) (fun hs_ => hk_.2.1 hs_) (fun hn_ => Nat.not_le.2 hk_.2.2 hn_)⟩)); have n1_ := Aside0.mk (Kd.R_mono (ok' := fun k_ => some k_ ≠ (v167 : Value).ownBlock ∧ some k_ ≠ (v179 : Value).ownBlock) (Kd.R_keptB (HO_8.out) hkp (fun k_ hk_ hs_ => (hk_.2) hs_)) (fun k_ hk_ => ⟨hk_.1.1, fun e_ => Or.elim (ho0.1 k_ e_.symm) (fun hs_ => hk_.2.1 hs_) (fun hn_ => Nat.not_le.2 hk_.2.2 hn_)⟩)); have n2_ := Aside0.mk (Kd.R_mono (ok' := fun k_ => some k_ ≠ (v167 : Value).ownBlock ∧ some k_ ≠ (.slice Ao17 y172.length co17 : Value).ownBlock) ho0 (fun k_ hk_ => ⟨Or.elim hk_ (fun hs_ => fun e_ => (((HO_7.out).1 k_ e_.symm).2) hs_) (fun hn_ => (Kd.fresh' (Kd.R_lt (qR HO_7.out)) k_ hn_)), Or.elim hk_ (fun hs_ => fun e_ => (((HO_8.out).1 k_ e_.symm).2) hs_) (fun hn_ => (Kd.fresh' (Kd.R_lt (qR HO_8.out)) k_ hn_))⟩)); have n3_ := Aside0.mk (hb); clear HO_7; clear HO_8; clear HB; clear HO_9; have HO_7 := n0_; have HO_8 := n1_; have HO180 := n2_; have HB := n3_; clear n0_ n1_ n2_ n3_; (try clear hb); (try clear hkp); (try clear ho0); obtain ⟨Ao46, co46, eo46⟩ := Kd.R_slice HO_7.out; subst eo46) | ((with_reducible refine gate_callee (f := 75) rfl ?_); refine goesL_ (some 66) rfl rfl Tryd.func75 (by kernel_rfl) rfl #[.slice Ao46 x7_1.length co46, .int .i64 t165] rfl qL ?_; (with_reducible refine (nat_unshift.calls k1 _ _ x7_1 t165 t181 _ ?side1 ?side2 A43.out).mono ?_); (case side1 => exact qC (Kd.R_reads' HO_7.out).2.2); (case side2 => exact (Kd.R_reads' HO_7.out).2.1); rintro e w47 ⟨v182, rfl, ho0, hb⟩; refine ⟨_, rfl, ?_⟩; have n0_ := Aside0.mk (Kd.R_elder' (qR HO_7.out) (Kd.R_base ho0) hb); have n1_ := Aside0.mk (Kd.R_elder' (qR HO_8.out) (Kd.R_base ho0) hb); have n2_ := Aside0.mk (Kd.R_elder' (qR HO180.out) (Kd.R_base ho0) hb); have n3_ := Aside0.mk (Kd.R_lower (Kd.R_new' (Kd.R_new' (Kd.R_new' ho0 (Kd.R_lt (qR HO_7.out))) (Kd.R_lt (qR HO_8.out))) (Kd.R_lt (qR HO180.out))) (below_size qB)); have n4_ := Aside0.mk (below_step qB hb); clear HO_7; clear HO_8; clear HO180; clear HB; have HO_7 := n0_; have HO_8 := n1_; have HO180 := n2_; have HO183 := n3_; have HB := n4_; clear n0_ n1_ n2_ n3_ n4_; (try clear hb); (try clear hb2); (try clear hk); (try clear hi); (try clear ho0); obtain ⟨Ao48, co48, eo48⟩ := Kd.R_slice HO183.out; subst eo48) | ((with_reducible refine gate_callee (f := 61) rfl ?_); refine goesL_ (some 67) rfl rfl Tryd.func61 (by kernel_rfl) rfl #[.slice Ao48 t181.length co48] rfl qL ?_; (with_reducible refine (nat_trim.calls k1 (fun k_ => some k_ = (.slice Ao48 t181.length co48 : Value).ownBlock) (.slice Ao48 t181.length co48) t181 t184 w _ ?side1 ?side2 A44.out).mono ?_); (case side1 => exact qB); (case side2 => exact Kd.R_tight rfl HO183.out); rintro e w49 ⟨v185, rfl, ho0, hb, hkp⟩; refine ⟨_, rfl, ?_⟩; have n0_ := Aside0.mk (Kd.R_mono (ok' := fun k_ => some k_ ≠ (.slice Ao17 y172.length co17 : Value).ownBlock ∧ some k_ ≠ (v179 : Value).ownBlock ∧ some k_ ≠ (v185 : Value).ownBlock) (Kd.R_keptB (HO_7.out) hkp (fun k_ hk_ hs_ => (hk_.2) hs_)) (fun k_ hk_ => ⟨hk_.1.1.1, hk_.1.1.2, fun e_ => Or.elim (ho0.1 k_ e_.symm) (fun hs_ => hk_.2.1 hs_) (fun hn_ => Nat.not_le.2 hk_.2.2 hn_)⟩)); have n1_ := Aside0.mk (Kd.R_mono (ok' := fun k_ => some k_ ≠ (.slice Ao46 x7_1.length co46 : Value).ownBlock ∧ some k_ ≠ (v179 : Value).ownBlock ∧ some k_ ≠ (v185 : Value).ownBlock) (Kd.R_keptB (HO_8.out) hkp (fun k_ hk_ hs_ => (hk_.2) hs_)) (fun k_ hk_ => ⟨hk_.1.1.1, hk_.1.1.2, fun e_ => Or.elim (ho0.1 k_ e_.symm) (fun hs_ => hk_.2.1 hs_) (fun hn_ => Nat.not_le.2 hk_.2.2 hn_)⟩)); have n2_ := Aside0.mk (Kd.R_mono (ok' := fun k_ => some k_ ≠ (.slice Ao46 x7_1.length co46 : Value).ownBlock ∧ some k_ ≠ (.slice Ao17 y172.length co17 : Value).ownBlock ∧ some k_ ≠ (v185 : Value).ownBlock) (Kd.R_keptB (HO180.out) hkp (fun k_ hk_ hs_ => (hk_.2) hs_)) (fun k_ hk_ => ⟨hk_.1.1.1, hk_.1.1.2, fun e_ => Or.elim (ho0.1 k_ e_.symm) (fun hs_ => hk_.2.1 hs_) (fun hn_ => Nat.not_le.2 hk_.2.2 hn_)⟩)); have n3_ := Aside0.mk (Kd.R_mono (ok' := fun k_ => some k_ ≠ (.slice Ao46 x7_1.length co46 : Value).ownBlock ∧ some k_ ≠ (.slice Ao17 y172.length co17 : Value).ownBlock ∧ some k_ ≠ (v179 : Value).ownBlock) ho0 (fun k_ hk_ => ⟨Or.elim hk_ (fun hs_ => fun e_ => (((HO_7.out).1 k_ e_.symm).2) hs_) (fun hn_ => (Kd.fresh' (Kd.R_lt (qR HO_7.out)) k_ hn_)), Or.elim hk_ (fun hs_ => fun e_ => (((HO_8.out).1 k_ e_.symm).2) hs_) (fun hn_ => (Kd.fresh' (Kd.R_lt (qR HO_8.out)) k_ hn_)), Or.elim hk_ (fun hs_ => fun e_ => (((HO180.out).1 k_ e_.symm).2) hs_) (fun hn_ => (Kd.fresh' (Kd.R_lt (qR HO180.out)) k_ hn_))⟩)); have n4_ := Aside0.mk (hb); clear HO_7; clear HO_8; clear HO180; clear HB; clear HO183; have HO_7 := n0_; have HO_8 := n1_; have HO180 := n2_; have HO186 := n3_; have HB := n4_; clear n0_ n1_ n2_ n3_ n4_; (try clear hb); (try clear hkp); (try clear ho0)))
          go_ret2
          exact ⟨_, _, by first | rfl | (simp [errW_none, errW_some] <;> rfl) | (simp only [← hji3, ← hji11]; first | rfl | (simp [errW_none, errW_some] <;> rfl)) | (simp [*, errW_none, errW_some] <;> rfl), by (with_reducible repeat (first | apply Kd.R_alloc | apply Kd.R_drewN | apply Kd.R_drew)); exact Kd.R_mono HO180.out (fun _ hk => hk.2.2), by (with_reducible repeat (first | apply Kd.R_alloc | apply Kd.R_drewN | apply Kd.R_drew)); exact Kd.R_mono HO186.out (fun _ hk => hk.2.2), qB⟩
      ·rw [if_neg c13] at H
       exact absurd H (by simp)
     ·rw [if_neg c12] at H
      exact absurd H (by simp)
    ·rw [if_neg c10] at H
     exact absurd H (by simp)
   ·rw [if_neg c9] at H
    exact absurd H (by simp)
  ·rw [if_neg c5] at H
   exact absurd H (by simp)
 ·rw [if_neg c4] at H
  exact absurd H (by simp)

/-! ### nat_split: function 45 -/
def nat_split.f (k : Nat) (l0 : List Int) (l1 : List Int) : Option (List Int × List Int) := (nat_order.f k l0 l1).bind fun t193 => (if t193 < 0 then ((api_Nat_uint32.f l0).bind fun t194 => (some (([] : List Int), t194))) else (if (l1.length : Int) = 1 then (if 0 < (l1.length : Int) then ((nat_short.f k l0 (rd l1 0)).bind fun bt198 => ((nat_Of.f k (IntKind.u64.wrap (bt198.2))).bind fun t202 => (some (bt198.1, t202)))) else (none)) else ((nat_long.f k l0 l1).bind fun bt205 => (some (bt205.1, bt205.2)))))
theorem nat_split.mono : ∀ a0 a1 k, LeO (nat_split.f k a0 a1) (nat_split.f (k + 1) a0 a1) := by
 intro a0 a1 k
 unfold nat_split.f
 repeat' first
   | (with_reducible exact nat_Of.mono _ _)
   | (with_reducible exact nat_long.mono _ _ _)
   | (with_reducible exact nat_order.mono _ _ _)
   | (with_reducible exact nat_short.mono _ _ _)
   | (with_reducible exact LeO.refl _)
   | (with_reducible exact LeO.none _)
   | (with_reducible refine LeO.ite ?_ ?_)
   | (with_reducible refine LeO.bind ?_ (fun _ => ?_))
   | exact nat_Of.mono _ _
   | exact nat_long.mono _ _ _
   | exact nat_order.mono _ _ _
   | exact nat_short.mono _ _ _
   | exact LeO.none _
   | refine LeO.ite ?_ ?_
   | refine LeO.bind ?_ (fun _ => ?_)
set_option maxHeartbeats 8000000 in
set_option maxRecDepth 100000 in
theorem nat_split.calls (k : Nat) (A0 : Option Addr) (c0 : Nat) (l0 : List Int) (A1 : Option Addr) (c1 : Nat) (l1 : List Int) (r1 : List Int) (r2 : List Int) (w : World) (hr0 : Kd.C (Kd.int .u32) w A0 l0.length l0) (hc0 : l0.length ≤ c0) (hr1 : Kd.C (Kd.int .u32) w A1 l1.length l1) (hc1 : l1.length ≤ c1) (h : nat_split.f k l0 l1 = some (r1, r2)) :
  Calls Tryd.prog 45 #[.slice A0 l0.length c0, .slice A1 l1.length c1] w fun e w' => ∃ v0_ v1_ : Value, e = .returned (.tuple #[v0_, v1_]) ∧ Kd.R (Kd.int .u32) 47 w' w.heap.size (fun k_ => some k_ ≠ (v1_ : Value).ownBlock) v0_ r1 ∧ Kd.R (Kd.int .u32) 47 w' w.heap.size (fun k_ => some k_ ≠ (v0_ : Value).ownBlock) v1_ r2 ∧ Below w.heap.size w w' := by
 have HR0 := Aside0.mk hr0
 have HC0 := Aside0.mk hc0
 clear hr0 hc0
 have HR1 := Aside0.mk hr1
 have HC1 := Aside0.mk hc1
 clear hr1 hc1
 have HB := Aside0.mk (Below.refl w.heap.size w)
 have H : ((nat_order.f k l0 l1).bind fun t193 => (if t193 < 0 then ((api_Nat_uint32.f l0).bind fun t194 => (some (([] : List Int), t194))) else (if (l1.length : Int) = 1 then (if 0 < (l1.length : Int) then ((nat_short.f k l0 (rd l1 0)).bind fun bt198 => ((nat_Of.f k (IntKind.u64.wrap (bt198.2))).bind fun t202 => (some (bt198.1, t202)))) else (none)) else ((nat_long.f k l0 l1).bind fun bt205 => (some (bt205.1, bt205.2)))))) = some (r1, r2) := h
 clear h
 obtain ⟨t193, A30, H⟩ := Option.bind_eq_some_iff.mp H
 try dsimp only at H
 have A3 := Aside0.mk A30
 clear A30
 by_cases c4 : t193 < 0
 ·rw [if_pos c4] at H
  have c4b0 : decide (t193 < 0) = true := decide_eq_true c4
  clear c4
  obtain ⟨t194, A50, H⟩ := Option.bind_eq_some_iff.mp H
  try dsimp only at H
  have A5 := Aside0.mk A50
  clear A50
  simp only [Option.some.injEq, Prod.mk.injEq] at H
  obtain ⟨rfl, rfl⟩ := H
  go_enter Tryd.func45, Tryd.ntmps45
  go_wp2_with (first | ((with_reducible refine gate_callee (f := 47) rfl ?_); refine goesL_ (some 11) rfl rfl Tryd.func47 (by kernel_rfl) rfl #[.slice A0 l0.length c0, .slice A1 l1.length c1] rfl qL ?_; (with_reducible refine (nat_order.calls k _ _ l0 _ _ l1 t193 _ ?side1 ?side2 ?side3 ?side4 A3.out).mono ?_); (case side1 => exact qC HR0.out); (case side2 => exact HC0.out); (case side3 => exact qC HR1.out); (case side4 => exact HC1.out); rintro e w6 ⟨rfl, hb⟩; refine ⟨_, rfl, ?_⟩; have n0_ := Aside0.mk (below_step qB hb); clear HB; have HB := n0_; clear n0_; (try clear hb); (try clear hb2); (try clear hk); (try clear hi)) | ((with_reducible refine gate_callee (f := 46) rfl ?_); refine goesL_ (some 14) rfl rfl Tryd.func46 (by kernel_rfl) rfl #[.slice A0 l0.length c0] rfl qL ?_; (with_reducible refine (api_Nat_uint32.calls _ _ l0 t194 _ ?side1 ?side2 A5.out).mono ?_); (case side1 => exact qC (Kd.C_below HR0.out HB.out)); (case side2 => exact HC0.out); rintro e w7 ⟨v195, rfl, ho0, hb⟩; refine ⟨_, rfl, ?_⟩; have n0_ := Aside0.mk (Kd.R_lower ho0 (below_size qB)); have n1_ := Aside0.mk (below_step qB hb); clear HB; have HO196 := n0_; have HB := n1_; clear n0_ n1_; (try clear hb); (try clear hb2); (try clear hk); (try clear hi); (try clear ho0)))
  go_ret2
  exact ⟨_, _, by first | rfl | (simp [errW_none, errW_some] <;> rfl) | (simp [*, errW_none, errW_some] <;> rfl), by first | exact Kd.R_nil _ _ _ _ _ | exact Kd.N_nil _ _ _ _ _ | exact Kd.V_nil _ _ _ _ _ | exact Kd.Q_nil _ _ _ _ _ | exact Kd.S_nil _ _ _ _ _, by (with_reducible repeat (first | apply Kd.R_alloc | apply Kd.R_drewN | apply Kd.R_drew)); exact Kd.R_mono HO196.out (fun _ hk => (by simp [Value.ownBlock])), qB⟩
 ·rw [if_neg c4] at H
  have c4b0 : decide (t193 < 0) = false := decide_eq_false c4
  clear c4
  by_cases c8 : (l1.length : Int) = 1
  ·rw [if_pos c8] at H
   have c8b0 : ((l1.length : Int) == 1) = true := beq_iff_eq.mpr c8
   have c8b1 : ((l1.length : Int) != 1) = false := bne_eq_false_iff_eq.mpr c8
   clear c8
   by_cases c9 : 0 < (l1.length : Int)
   ·rw [if_pos c9] at H
    have c9b0 : decide (0 < (l1.length : Int)) = true := decide_eq_true c9
    have c9b1 : decide (0 < l1.length) = true := decide_eq_true (by omega)
    clear c9
    obtain ⟨⟨t198, t199⟩, A100, H⟩ := Option.bind_eq_some_iff.mp H
    try dsimp only at H
    have A10 := Aside0.mk A100
    clear A100
    obtain ⟨t202, A110, H⟩ := Option.bind_eq_some_iff.mp H
    try dsimp only at H
    have A11 := Aside0.mk A110
    clear A110
    simp only [Option.some.injEq, Prod.mk.injEq] at H
    obtain ⟨rfl, rfl⟩ := H
    go_enter Tryd.func45, Tryd.ntmps45
    go_wp2_with (first | ((with_reducible refine gate_callee (f := 47) rfl ?_); refine goesL_ (some 11) rfl rfl Tryd.func47 (by kernel_rfl) rfl #[.slice A0 l0.length c0, .slice A1 l1.length c1] rfl qL ?_; (with_reducible refine (nat_order.calls k _ _ l0 _ _ l1 t193 _ ?side1 ?side2 ?side3 ?side4 A3.out).mono ?_); (case side1 => exact qC HR0.out); (case side2 => exact HC0.out); (case side3 => exact qC HR1.out); (case side4 => exact HC1.out); rintro e w12 ⟨rfl, hb⟩; refine ⟨_, rfl, ?_⟩; have n0_ := Aside0.mk (below_step qB hb); clear HB; have HB := n0_; clear n0_; (try clear hb); (try clear hb2); (try clear hk); (try clear hi); have p197 : 0 ≤ (0 : Int) := (by omega); have q197 : 0 < (l1.length : Int) := of_decide_eq_true qA; obtain ⟨ad197, e197, hx197_0⟩ := Kd.at_int HR1.out 0 p197 q197; cases e197; have qi197 : (0 < l1.length) = True := eq_true (by omega); (try rw [show ((0 : Int)).toNat = 0 from rfl] at hx197_0); (try rw [Addr.add_zero'] at hx197_0); replace hx197_0 := (HB.out.cell (World.block_lt_of_cell? w _ hx197_0)).trans hx197_0; replace p197 := eq_true p197; replace q197 := eq_true q197) | ((with_reducible refine gate_callee (f := 64) rfl ?_); refine goesL_ (some 24) rfl rfl Tryd.func64 (by kernel_rfl) rfl #[.slice A0 l0.length c0, .int .u32 (rd l1 0)] rfl qL ?_; (with_reducible refine (nat_short.calls k _ _ l0 (rd l1 0) t198 t199 _ ?side1 ?side2 A10.out).mono ?_); (case side1 => exact qC (Kd.C_below HR0.out HB.out)); (case side2 => exact HC0.out); rintro e w13 ⟨v200, rfl, ho0, hb⟩; refine ⟨_, rfl, ?_⟩; have n0_ := Aside0.mk (Kd.R_lower ho0 (below_size qB)); have n1_ := Aside0.mk (below_step qB hb); clear HB; have HO201 := n0_; have HB := n1_; clear n0_ n1_; (try clear hb); (try clear hb2); (try clear hk); (try clear hi); (try clear ho0)) | ((with_reducible refine gate_callee (f := 34) rfl ?_); refine goesL_ (some 30) rfl rfl Tryd.func34 (by kernel_rfl) rfl #[.int .u64 (IntKind.u64.wrap (t199))] rfl qL ?_; (with_reducible refine (nat_Of.calls k (IntKind.u64.wrap (t199)) t202 _ A11.out).mono ?_); rintro e w14 ⟨v203, rfl, ho0, hb⟩; refine ⟨_, rfl, ?_⟩; have n0_ := Aside0.mk (Kd.R_elder' (qR HO201.out) (Kd.R_base ho0) hb); have n1_ := Aside0.mk (Kd.R_lower (Kd.R_new' ho0 (Kd.R_lt (qR HO201.out))) (below_size qB)); have n2_ := Aside0.mk (below_step qB hb); clear HO201; clear HB; have HO201 := n0_; have HO204 := n1_; have HB := n2_; clear n0_ n1_ n2_; (try clear hb); (try clear hb2); (try clear hk); (try clear hi); (try clear ho0)))
    go_ret2
    exact ⟨_, _, by first | rfl | (simp [errW_none, errW_some] <;> rfl) | (simp [*, errW_none, errW_some] <;> rfl), by (with_reducible repeat (first | apply Kd.R_alloc | apply Kd.R_drewN | apply Kd.R_drew)); exact Kd.R_mono HO201.out (fun _ hk => hk.2), by (with_reducible repeat (first | apply Kd.R_alloc | apply Kd.R_drewN | apply Kd.R_drew)); exact Kd.R_mono HO204.out (fun _ hk => hk.2), qB⟩
   ·rw [if_neg c9] at H
    exact absurd H (by simp)
  ·rw [if_neg c8] at H
   have c8b0 : ((l1.length : Int) == 1) = false := beq_eq_false_iff_ne.mpr c8
   have c8b1 : ((l1.length : Int) != 1) = true := bne_iff_ne.mpr c8
   obtain ⟨⟨t205, t206⟩, A150, H⟩ := Option.bind_eq_some_iff.mp H
   try dsimp only at H
   have A15 := Aside0.mk A150
   clear A150
   simp only [Option.some.injEq, Prod.mk.injEq] at H
   obtain ⟨rfl, rfl⟩ := H
   go_enter Tryd.func45, Tryd.ntmps45
   go_wp2_with (first | ((with_reducible refine gate_callee (f := 47) rfl ?_); refine goesL_ (some 11) rfl rfl Tryd.func47 (by kernel_rfl) rfl #[.slice A0 l0.length c0, .slice A1 l1.length c1] rfl qL ?_; (with_reducible refine (nat_order.calls k _ _ l0 _ _ l1 t193 _ ?side1 ?side2 ?side3 ?side4 A3.out).mono ?_); (case side1 => exact qC HR0.out); (case side2 => exact HC0.out); (case side3 => exact qC HR1.out); (case side4 => exact HC1.out); rintro e w16 ⟨rfl, hb⟩; refine ⟨_, rfl, ?_⟩; have n0_ := Aside0.mk (below_step qB hb); clear HB; have HB := n0_; clear n0_; (try clear hb); (try clear hb2); (try clear hk); (try clear hi)) | ((with_reducible refine gate_callee (f := 65) rfl ?_); refine goesL_ (some 33) rfl rfl Tryd.func65 (by kernel_rfl) rfl #[.slice A0 l0.length c0, .slice A1 l1.length c1] rfl qL ?_; (with_reducible refine (nat_long.calls k _ _ l0 _ _ l1 t205 t206 _ ?side1 ?side2 ?side3 ?side4 A15.out).mono ?_); (case side1 => exact qC (Kd.C_below HR0.out HB.out)); (case side2 => exact HC0.out); (case side3 => exact qC (Kd.C_below HR1.out HB.out)); (case side4 => exact HC1.out); rintro e w17 ⟨v207, v209, rfl, ho0, ho1, hb⟩; refine ⟨_, rfl, ?_⟩; have n0_ := Aside0.mk (Kd.R_lower ho0 (below_size qB)); have n1_ := Aside0.mk (Kd.R_lower ho1 (below_size qB)); have n2_ := Aside0.mk (below_step qB hb); clear HB; have HO208 := n0_; have HO210 := n1_; have HB := n2_; clear n0_ n1_ n2_; (try clear hb); (try clear hb2); (try clear hk); (try clear hi); (try clear ho0); (try clear ho1)))
   go_ret2
   exact ⟨_, _, by first | rfl | (simp [errW_none, errW_some] <;> rfl) | (simp [*, errW_none, errW_some] <;> rfl), by (with_reducible repeat (first | apply Kd.R_alloc | apply Kd.R_drewN | apply Kd.R_drew)); exact HO208.out, by (with_reducible repeat (first | apply Kd.R_alloc | apply Kd.R_drewN | apply Kd.R_drew)); exact HO210.out, qB⟩

/-! ### nat_Gcd: function 18 -/
mutual
def nat_Gcd.j0 : Nat → List Int → List Int → Bool → Option (List Int × Int)
 | 0, _, _, _ => none
 | k + 1, x0, x1, x15 => if x15 = true then (some (([] : List Int), 1)) else (nat_Gcd.l0 k x0 x1)
def nat_Gcd.l0 : Nat → List Int → List Int → Option (List Int × Int)
 | 0, _, _ => none
 | k + 1, x0, x1 => if (x1.length : Int) > 0 then ((nat_split.f k x0 x1).bind fun bt213 => (nat_Gcd.l0 k x1 bt213.2)) else ((api_Nat_uint32.f x0).bind fun t219 => (some (t219, 0)))
end
def nat_Gcd.f (k : Nat) (l0 : List Int) (l1 : List Int) : Option (List Int × Int) := (nat_Right.f l0).bind fun t211 => (if t211 = true then ((nat_Right.f l1).bind fun t212 => (nat_Gcd.j0 k l0 l1 (!t212))) else (nat_Gcd.j0 k l0 l1 true))
theorem nat_Gcd.mono_l : ∀ k, (∀ y0 y1 y2, LeO (nat_Gcd.j0 k y0 y1 y2) (nat_Gcd.j0 (k + 1) y0 y1 y2)) ∧ (∀ y0 y1, LeO (nat_Gcd.l0 k y0 y1) (nat_Gcd.l0 (k + 1) y0 y1))
 | 0 => ⟨fun _ _ _ r h => by simp [nat_Gcd.j0] at h, fun _ _ r h => by simp [nat_Gcd.l0] at h⟩
 | k + 1 => by
  obtain ⟨ih0, ih1⟩ := nat_Gcd.mono_l k
  refine ⟨?_, ?_⟩
  ·intro y0 y1 y2
   unfold nat_Gcd.j0
   repeat' first
   | (with_reducible exact ih0 _ _ _)
   | (with_reducible exact ih1 _ _)
   | (with_reducible exact nat_split.mono _ _ _)
   | (with_reducible exact LeO.refl _)
   | (with_reducible exact LeO.none _)
   | (with_reducible refine LeO.ite ?_ ?_)
   | (with_reducible refine LeO.bind ?_ (fun _ => ?_))
   | exact ih0 _ _ _
   | exact ih1 _ _
   | exact nat_split.mono _ _ _
   | exact LeO.none _
   | refine LeO.ite ?_ ?_
   | refine LeO.bind ?_ (fun _ => ?_)
  ·intro y0 y1
   unfold nat_Gcd.l0
   repeat' first
   | (with_reducible exact ih0 _ _ _)
   | (with_reducible exact ih1 _ _)
   | (with_reducible exact nat_split.mono _ _ _)
   | (with_reducible exact LeO.refl _)
   | (with_reducible exact LeO.none _)
   | (with_reducible refine LeO.ite ?_ ?_)
   | (with_reducible refine LeO.bind ?_ (fun _ => ?_))
   | exact ih0 _ _ _
   | exact ih1 _ _
   | exact nat_split.mono _ _ _
   | exact LeO.none _
   | refine LeO.ite ?_ ?_
   | refine LeO.bind ?_ (fun _ => ?_)
theorem nat_Gcd.mono : ∀ a0 a1 k, LeO (nat_Gcd.f k a0 a1) (nat_Gcd.f (k + 1) a0 a1) := by
 intro a0 a1 k
 obtain ⟨ih0, ih1⟩ := nat_Gcd.mono_l k
 unfold nat_Gcd.f
 repeat' first
   | (with_reducible exact ih0 _ _ _)
   | (with_reducible exact ih1 _ _)
   | (with_reducible exact nat_split.mono _ _ _)
   | (with_reducible exact LeO.refl _)
   | (with_reducible exact LeO.none _)
   | (with_reducible refine LeO.ite ?_ ?_)
   | (with_reducible refine LeO.bind ?_ (fun _ => ?_))
   | exact ih0 _ _ _
   | exact ih1 _ _
   | exact nat_split.mono _ _ _
   | exact LeO.none _
   | refine LeO.ite ?_ ?_
   | refine LeO.bind ?_ (fun _ => ?_)
set_option maxHeartbeats 8000000 in
set_option maxRecDepth 100000 in
theorem nat_Gcd.calls (k : Nat) (P0_ : Nat → Prop) (A0 : Option Addr) (c0 : Nat) (l0 : List Int) (P1_ : Nat → Prop) (A1 : Option Addr) (c1 : Nat) (l1 : List Int) (r1 : List Int) (r2 : Int) (w : World) (hs0 : Kd.V (Kd.int .u32) 47 w w.heap.size (fun k_ => P0_ k_) (.slice A0 l0.length c0) l0) (hs1 : Kd.V (Kd.int .u32) 47 w w.heap.size (fun k_ => P1_ k_) (.slice A1 l1.length c1) l1) (h : nat_Gcd.f k l0 l1 = some (r1, r2)) :
  Calls Tryd.prog 18 #[.slice A0 l0.length c0, .slice A1 l1.length c1] w fun e w' => ∃ v0_ : Value, e = .returned (.tuple #[v0_, .int .i64 r2]) ∧ Kd.R (Kd.int .u32) 47 w' w.heap.size (fun k_ => (w.heap.size ≤ k_)) v0_ r1 ∧ Below w.heap.size w w' := by
 have HO0 := Aside0.mk (show Kd.V (Kd.int .u32) 47 w w.heap.size (fun k_ => ((P0_ k_ ∨ P1_ k_) ∨ w.heap.size ≤ k_)) (.slice A0 l0.length c0) l0 from Kd.V_mono hs0 (fun k_ hk => .inl (.inl hk)))
 have HO1 := Aside0.mk (show Kd.V (Kd.int .u32) 47 w w.heap.size (fun k_ => ((P0_ k_ ∨ P1_ k_) ∨ w.heap.size ≤ k_)) (.slice A1 l1.length c1) l1 from Kd.V_mono hs1 (fun k_ hk => .inl (.inr hk)))
 have HB := Aside0.mk (Below.refl w.heap.size w)
 have H : ((nat_Right.f l0).bind fun t211 => (if t211 = true then ((nat_Right.f l1).bind fun t212 => (nat_Gcd.j0 k l0 l1 (!t212))) else (nat_Gcd.j0 k l0 l1 true))) = some (r1, r2) := h
 clear h
 have HC3 := Aside0.mk H
 clear H
 go_enter Tryd.func18, Tryd.ntmps18
 go_upto_region 1 with (fail)
 go_cut [15] (fun v15 wc => ∃ (kq : Nat) (x15_2 : Bool), v15 = .bool x15_2 ∧ Aside0 (nat_Gcd.j0 kq l0 l1 x15_2 = some (r1, r2)) ∧ Aside0 (kq ≤ k) ∧ Aside0 (Kd.V (Kd.int .u32) 47 wc w.heap.size (fun k_ => ((P0_ k_ ∨ P1_ k_) ∨ w.heap.size ≤ k_)) (.slice A0 l0.length c0) l0) ∧ Aside0 (Kd.V (Kd.int .u32) 47 wc w.heap.size (fun k_ => ((P0_ k_ ∨ P1_ k_) ∨ w.heap.size ≤ k_)) (.slice A1 l1.length c1) l1) ∧ Aside0 (Below w.heap.size w wc))
 case first =>
  have H := HC3.out
  clear HC3
  obtain ⟨t211, A40, H⟩ := Option.bind_eq_some_iff.mp H
  try dsimp only at H
  have A4 := Aside0.mk A40
  clear A40
  by_cases c5 : t211 = true
  ·subst c5
   have H1 : ((nat_Right.f l1).bind fun t212 => (nat_Gcd.j0 k l0 l1 (!t212))) = some (r1, r2) := by rw [if_pos rfl] at H; exact H
   clear H
   have H := H1
   clear H1
   obtain ⟨t212, A60, H⟩ := Option.bind_eq_some_iff.mp H
   try dsimp only at H
   have A6 := Aside0.mk A60
   clear A60
   have H' := Aside0.mk H
   clear H
   go_wp2_with (first | ((with_reducible refine gate_callee (f := 44) rfl ?_); refine goesL_ (some 9) rfl rfl Tryd.func44 (by kernel_rfl) rfl #[.slice A0 l0.length c0] rfl qL ?_; (with_reducible refine (nat_Right.calls _ _ l0 true _ ?side1 ?side2 A4.out).mono ?_); (case side1 => exact qC (Kd.V_reads' HO0.out).2.2); (case side2 => exact (Kd.V_reads' HO0.out).2.1); rintro e w' ⟨rfl, ⟨nd, rfl⟩⟩; refine ⟨_, rfl, ?_⟩) | (go_at_call 44; (with_reducible refine (nat_Right.calls _ _ l1 t212 _ ?side1 ?side2 A6.out).mono ?_); (case side1 => exact qC (Kd.V_reads' HO1.out).2.2); (case side2 => exact (Kd.V_reads' HO1.out).2.1); rintro e w' ⟨rfl, ⟨nd, rfl⟩⟩))
   go_meet
   case rel => exact ⟨_, (!t212), (by first | rfl | (simp; done) | (simp [*]; done)), H', ⟨by first | omega | exact Nat.le_refl _⟩, ⟨by (with_reducible repeat (first | apply Kd.V_alloc | apply Kd.V_drewN | apply Kd.V_drew)); exact HO0.out⟩, ⟨by (with_reducible repeat (first | apply Kd.V_alloc | apply Kd.V_drewN | apply Kd.V_drew)); exact HO1.out⟩, ⟨qB⟩⟩
  ·replace c5 := Bool.eq_false_iff.mpr c5
   subst c5
   have H1 : (nat_Gcd.j0 k l0 l1 true) = some (r1, r2) := by rw [if_neg (show ¬ (false = true) by decide)] at H; exact H
   clear H
   have H := H1
   clear H1
   have H' := Aside0.mk H
   clear H
   go_wp2_with (first | ((with_reducible refine gate_callee (f := 44) rfl ?_); refine goesL_ (some 9) rfl rfl Tryd.func44 (by kernel_rfl) rfl #[.slice A0 l0.length c0] rfl qL ?_; (with_reducible refine (nat_Right.calls _ _ l0 false _ ?side1 ?side2 A4.out).mono ?_); (case side1 => exact qC (Kd.V_reads' HO0.out).2.2); (case side2 => exact (Kd.V_reads' HO0.out).2.1); rintro e w' ⟨rfl, ⟨nd, rfl⟩⟩; refine ⟨_, rfl, ?_⟩))
   go_meet
   case rel => exact ⟨_, (true), (by first | rfl | (simp; done) | (simp [*]; done)), H', ⟨by first | omega | exact Nat.le_refl _⟩, ⟨by (with_reducible repeat (first | apply Kd.V_alloc | apply Kd.V_drewN | apply Kd.V_drew)); exact HO0.out⟩, ⟨by (with_reducible repeat (first | apply Kd.V_alloc | apply Kd.V_drewN | apply Kd.V_drew)); exact HO1.out⟩, ⟨qB⟩⟩
 case rest =>
  clear HC3
  try clear c1
  try clear p2
  try clear c4
  try clear c5
  obtain ⟨kq, x15_2, rfl, HA, HJ2, HO_0, HO_1, HB⟩ := hcut
  cases kq with
  | zero => exact absurd HA.out (by simp [nat_Gcd.j0])
  | succ kj2 =>
   have H := HA.out
   clear HA
   simp only [nat_Gcd.j0] at H
   by_cases c7 : x15_2 = true
   ·subst c7
    have H1 : (some (([] : List Int), 1)) = some (r1, r2) := by rw [if_pos rfl] at H; exact H
    clear H
    have H := H1
    clear H1
    simp only [Option.some.injEq, Prod.mk.injEq] at H
    obtain ⟨rfl, rfl⟩ := H
    go_wp2
    go_ret2
    exact ⟨_, by first | rfl | (simp [errW_none, errW_some] <;> rfl) | (simp [*, errW_none, errW_some] <;> rfl), by first | exact Kd.R_nil _ _ _ _ _ | exact Kd.N_nil _ _ _ _ _ | exact Kd.V_nil _ _ _ _ _ | exact Kd.Q_nil _ _ _ _ _ | exact Kd.S_nil _ _ _ _ _, qB⟩
   ·replace c7 := Bool.eq_false_iff.mpr c7
    subst c7
    have H1 : (nat_Gcd.l0 kj2 l0 l1) = some (r1, r2) := by rw [if_neg (show ¬ (false = true) by decide)] at H; exact H
    clear H
    have H := H1
    clear H1
    have H' := Aside0.mk H
    clear H
    go_wp2
    go_loopg [0, 1] kj2 (fun kq v0 v1 w' => ∃ (x0_2 : List Int) (x1_2 : List Int), Aside0 (nat_Gcd.l0 kq x0_2 x1_2 = some (r1, r2)) ∧ Aside0 (kq ≤ kj2) ∧ Aside0 (Kd.V (Kd.int .u32) 47 w' w.heap.size (fun k_ => ((P0_ k_ ∨ P1_ k_) ∨ w.heap.size ≤ k_)) v0 x0_2) ∧ Aside0 (Kd.V (Kd.int .u32) 47 w' w.heap.size (fun k_ => ((P0_ k_ ∨ P1_ k_) ∨ w.heap.size ≤ k_)) v1 x1_2) ∧ Aside0 (Below w.heap.size w w'))
    case atStart => exact ⟨(l0), (l1), H', ⟨Nat.le_refl _⟩, ⟨by (with_reducible repeat (first | apply Kd.V_alloc | apply Kd.V_drewN | apply Kd.V_drew)); exact HO_0.out⟩, ⟨by (with_reducible repeat (first | apply Kd.V_alloc | apply Kd.V_drewN | apply Kd.V_drew)); exact HO_1.out⟩, ⟨qB⟩⟩
    case round =>
     clear H'
     try clear c1
     try clear p2
     try clear c4
     try clear c5
     try clear c7
     try clear p2
     obtain ⟨x0_2, x1_2, HA, HK2, HO_0, HO_1, HB⟩ := hrel
     cases gk with
     | zero => exact absurd HA.out (by simp [nat_Gcd.l0])
     | succ k2 =>
      have H := HA.out
      clear HA
      simp only [nat_Gcd.l0] at H
      by_cases c8 : (x1_2.length : Int) > 0
      ·rw [if_pos c8] at H
       have c8b0 : decide (0 < (x1_2.length : Int)) = true := decide_eq_true c8
       have c8b1 : decide (0 < x1_2.length) = true := decide_eq_true (by omega)
       clear c8
       obtain ⟨⟨t213, t214⟩, A90, H⟩ := Option.bind_eq_some_iff.mp H
       try dsimp only at H
       have A9 := Aside0.mk A90
       clear A90
       have H' := Aside0.mk H
       clear H
       obtain ⟨Ao10, co10, eo10⟩ := Kd.V_slice HO_1.out
       subst eo10
       obtain ⟨Ao11, co11, eo11⟩ := Kd.V_slice HO_0.out
       subst eo11
       go_wp2_with (first | ((with_reducible refine gate_callee (f := 45) rfl ?_); refine goesL_ (some 22) rfl rfl Tryd.func45 (by kernel_rfl) rfl #[.slice Ao11 x0_2.length co11, .slice Ao10 x1_2.length co10] rfl qL ?_; (with_reducible refine (nat_split.calls k2 _ _ x0_2 _ _ x1_2 t213 t214 _ ?side1 ?side2 ?side3 ?side4 A9.out).mono ?_); (case side1 => exact qC (Kd.V_reads' HO_0.out).2.2); (case side2 => exact (Kd.V_reads' HO_0.out).2.1); (case side3 => exact qC (Kd.V_reads' HO_1.out).2.2); (case side4 => exact (Kd.V_reads' HO_1.out).2.1); rintro e w12 ⟨v215, v217, rfl, ho0, ho1, hb⟩; refine ⟨_, rfl, ?_⟩; have n0_ := Aside0.mk (Kd.V_mono (Kd.V_told (Kd.V_told (Kd.V_old (qV HO_0.out) hb) (Kd.R_base ho0)) (Kd.R_base ho1)) (fun _ h_ => h_.1)); have n1_ := Aside0.mk (Kd.V_mono (Kd.V_told (Kd.V_told (Kd.V_old (qV HO_1.out) hb) (Kd.R_base ho0)) (Kd.R_base ho1)) (fun _ h_ => h_.1)); have n2_ := Aside0.mk (Kd.R_lower (Kd.R_newM (M := fun k_ => (w.heap.size ≤ k_)) ho0 (below_size qB) (fun k_ h_ => h_)) (below_size qB)); have n3_ := Aside0.mk (Kd.R_lower (Kd.R_newM (M := fun k_ => (w.heap.size ≤ k_)) ho1 (below_size qB) (fun k_ h_ => h_)) (below_size qB)); have n4_ := Aside0.mk (below_step qB hb); clear HO_0; clear HO_1; clear HB; have HO_0 := n0_; have HO_1 := n1_; have HO216 := n2_; have HO218 := n3_; have HB := n4_; clear n0_ n1_ n2_ n3_ n4_; (try clear hb); (try clear hb2); (try clear hk); (try clear hi); (try clear ho0); (try clear ho1)))
       go_roundg k2
       case measure => have := HJ2.out; have := HK2.out; omega
       case rel => exact ⟨(x1_2), (t214), H', ⟨by have := HJ2.out; have := HK2.out; omega⟩, ⟨by (with_reducible repeat (first | apply Kd.V_alloc | apply Kd.V_drewN | apply Kd.V_drew)); exact Kd.V_mono HO_1.out (fun _ hk => hk.1.1)⟩, ⟨Kd.V_mono (Kd.R_V (by (with_reducible repeat (first | apply Kd.R_alloc | apply Kd.R_drewN | apply Kd.R_drew)); exact Kd.R_mono HO218.out (fun _ hk => hk.1))) (fun k_ hk => by first | exact ⟨(.inr (hk.1)), hk.2⟩ | exact (.inr (hk)))⟩, ⟨qB⟩⟩
      ·rw [if_neg c8] at H
       have c8b0 : decide (0 < (x1_2.length : Int)) = false := decide_eq_false c8
       have c8b1 : decide (0 < x1_2.length) = false := decide_eq_false (by omega)
       clear c8
       obtain ⟨t219, A130, H⟩ := Option.bind_eq_some_iff.mp H
       try dsimp only at H
       have A13 := Aside0.mk A130
       clear A130
       simp only [Option.some.injEq, Prod.mk.injEq] at H
       obtain ⟨rfl, rfl⟩ := H
       obtain ⟨Ao14, co14, eo14⟩ := Kd.V_slice HO_1.out
       subst eo14
       obtain ⟨Ao15, co15, eo15⟩ := Kd.V_slice HO_0.out
       subst eo15
       go_wp2_with (first | ((with_reducible refine gate_callee (f := 46) rfl ?_); refine goesL_ (some 28) rfl rfl Tryd.func46 (by kernel_rfl) rfl #[.slice Ao15 x0_2.length co15] rfl qL ?_; (with_reducible refine (api_Nat_uint32.calls _ _ x0_2 t219 _ ?side1 ?side2 A13.out).mono ?_); (case side1 => exact qC (Kd.V_reads' HO_0.out).2.2); (case side2 => exact (Kd.V_reads' HO_0.out).2.1); rintro e w16 ⟨v220, rfl, ho0, hb⟩; refine ⟨_, rfl, ?_⟩; have n0_ := Aside0.mk (Kd.V_elder' (qV HO_0.out) (Kd.R_base ho0) hb); have n1_ := Aside0.mk (Kd.V_elder' (qV HO_1.out) (Kd.R_base ho0) hb); have n2_ := Aside0.mk (Kd.R_lower (Kd.R_newM (M := fun k_ => (w.heap.size ≤ k_)) ho0 (below_size qB) (fun k_ h_ => h_)) (below_size qB)); have n3_ := Aside0.mk (below_step qB hb); clear HO_0; clear HO_1; clear HB; have HO_0 := n0_; have HO_1 := n1_; have HO221 := n2_; have HB := n3_; clear n0_ n1_ n2_ n3_; (try clear hb); (try clear hb2); (try clear hk); (try clear hi); (try clear ho0)))
       go_ret2
       exact ⟨_, by first | rfl | (simp [errW_none, errW_some] <;> rfl) | (simp [*, errW_none, errW_some] <;> rfl), by (with_reducible repeat (first | apply Kd.R_alloc | apply Kd.R_drewN | apply Kd.R_drew)); exact Kd.R_mono HO221.out (fun _ hk => hk.1), qB⟩

/-! ### nat_Cmp: function 19 -/
def nat_Cmp.f (k : Nat) (l0 : List Int) (l1 : List Int) : Option (Int) := (nat_Right.f l0).bind fun t222 => (if t222 = true then ((nat_Right.f l1).bind fun t223 => (if t223 = true then ((nat_order.f k l0 l1).bind fun t224 => (some t224)) else (none))) else (none))
theorem nat_Cmp.mono : ∀ a0 a1 k, LeO (nat_Cmp.f k a0 a1) (nat_Cmp.f (k + 1) a0 a1) := by
 intro a0 a1 k
 unfold nat_Cmp.f
 repeat' first
   | (with_reducible exact nat_order.mono _ _ _)
   | (with_reducible exact LeO.refl _)
   | (with_reducible exact LeO.none _)
   | (with_reducible refine LeO.ite ?_ ?_)
   | (with_reducible refine LeO.bind ?_ (fun _ => ?_))
   | exact nat_order.mono _ _ _
   | exact LeO.none _
   | refine LeO.ite ?_ ?_
   | refine LeO.bind ?_ (fun _ => ?_)
set_option maxHeartbeats 8000000 in
set_option maxRecDepth 100000 in
theorem nat_Cmp.calls (k : Nat) (A0 : Option Addr) (c0 : Nat) (l0 : List Int) (A1 : Option Addr) (c1 : Nat) (l1 : List Int) (r : Int) (w : World) (hr0 : Kd.C (Kd.int .u32) w A0 l0.length l0) (hc0 : l0.length ≤ c0) (hr1 : Kd.C (Kd.int .u32) w A1 l1.length l1) (hc1 : l1.length ≤ c1) (h : nat_Cmp.f k l0 l1 = some r) :
  Calls Tryd.prog 19 #[.slice A0 l0.length c0, .slice A1 l1.length c1] w fun e w' => e = .returned (.int .i64 r) ∧ Below w.heap.size w w' := by
 have HR0 := Aside0.mk hr0
 have HC0 := Aside0.mk hc0
 clear hr0 hc0
 have HR1 := Aside0.mk hr1
 have HC1 := Aside0.mk hc1
 clear hr1 hc1
 have HB := Aside0.mk (Below.refl w.heap.size w)
 have H : ((nat_Right.f l0).bind fun t222 => (if t222 = true then ((nat_Right.f l1).bind fun t223 => (if t223 = true then ((nat_order.f k l0 l1).bind fun t224 => (some t224)) else (none))) else (none))) = some r := h
 clear h
 obtain ⟨t222, A30, H⟩ := Option.bind_eq_some_iff.mp H
 try dsimp only at H
 have A3 := Aside0.mk A30
 clear A30
 by_cases c4 : t222 = true
 ·subst c4
  have H1 : ((nat_Right.f l1).bind fun t223 => (if t223 = true then ((nat_order.f k l0 l1).bind fun t224 => (some t224)) else (none))) = some r := by rw [if_pos rfl] at H; exact H
  clear H
  have H := H1
  clear H1
  obtain ⟨t223, A50, H⟩ := Option.bind_eq_some_iff.mp H
  try dsimp only at H
  have A5 := Aside0.mk A50
  clear A50
  by_cases c6 : t223 = true
  ·subst c6
   have H1 : ((nat_order.f k l0 l1).bind fun t224 => (some t224)) = some r := by rw [if_pos rfl] at H; exact H
   clear H
   have H := H1
   clear H1
   obtain ⟨t224, A70, H⟩ := Option.bind_eq_some_iff.mp H
   try dsimp only at H
   have A7 := Aside0.mk A70
   clear A70
   obtain rfl := Option.some.inj H
   go_enter Tryd.func19, Tryd.ntmps19
   go_wp2_with (first | ((with_reducible refine gate_callee (f := 44) rfl ?_); refine goesL_ (some 6) rfl rfl Tryd.func44 (by kernel_rfl) rfl #[.slice A0 l0.length c0] rfl qL ?_; (with_reducible refine (nat_Right.calls _ _ l0 true _ ?side1 ?side2 A3.out).mono ?_); (case side1 => exact qC HR0.out); (case side2 => exact HC0.out); rintro e w' ⟨rfl, ⟨nd, rfl⟩⟩; refine ⟨_, rfl, ?_⟩) | (go_at_call 44; (with_reducible refine (nat_Right.calls _ _ l1 true _ ?side1 ?side2 A5.out).mono ?_); (case side1 => exact qC HR1.out); (case side2 => exact HC1.out); rintro e w' ⟨rfl, ⟨nd, rfl⟩⟩) | ((with_reducible refine gate_callee (f := 47) rfl ?_); refine goesL_ (some 15) rfl rfl Tryd.func47 (by kernel_rfl) rfl #[.slice A0 l0.length c0, .slice A1 l1.length c1] rfl qL ?_; (with_reducible refine (nat_order.calls k _ _ l0 _ _ l1 t224 _ ?side1 ?side2 ?side3 ?side4 A7.out).mono ?_); (case side1 => exact qC HR0.out); (case side2 => exact HC0.out); (case side3 => exact qC HR1.out); (case side4 => exact HC1.out); rintro e w8 ⟨rfl, hb⟩; refine ⟨_, rfl, ?_⟩; have n0_ := Aside0.mk (below_step qB hb); clear HB; have HB := n0_; clear n0_; (try clear hb); (try clear hb2); (try clear hk); (try clear hi)))
   go_ret
   exact ⟨by first | rfl | (simp [errW_none, errW_some] <;> rfl) | (simp [*, errW_none, errW_some] <;> rfl), qB⟩
  ·replace c6 := Bool.eq_false_iff.mpr c6
   subst c6
   have H1 : (none) = some r := by rw [if_neg (show ¬ (false = true) by decide)] at H; exact H
   clear H
   have H := H1
   clear H1
   exact absurd H (by simp)
 ·replace c4 := Bool.eq_false_iff.mpr c4
  subst c4
  have H1 : (none) = some r := by rw [if_neg (show ¬ (false = true) by decide)] at H; exact H
  clear H
  have H := H1
  clear H1
  exact absurd H (by simp)

/-! ### rat_one: function 20 -/
def rat_one.f (k : Nat)  : Option (List Int) := (nat_Of.f k 1).bind fun t225 => (some t225)
theorem rat_one.mono : ∀ k, LeO (rat_one.f k ) (rat_one.f (k + 1) ) := by
 intro  k
 unfold rat_one.f
 repeat' first
   | (with_reducible exact nat_Of.mono _ _)
   | (with_reducible exact LeO.refl _)
   | (with_reducible exact LeO.none _)
   | (with_reducible refine LeO.ite ?_ ?_)
   | (with_reducible refine LeO.bind ?_ (fun _ => ?_))
   | exact nat_Of.mono _ _
   | exact LeO.none _
   | refine LeO.ite ?_ ?_
   | refine LeO.bind ?_ (fun _ => ?_)
set_option maxHeartbeats 8000000 in
set_option maxRecDepth 100000 in
theorem rat_one.calls (k : Nat)  (r : List Int) (w : World) (h : rat_one.f k  = some r) :
  Calls Tryd.prog 20 #[] w fun e w' => ∃ v0_ : Value, e = .returned (v0_) ∧ Kd.R (Kd.int .u32) 47 w' w.heap.size (fun _ => True) v0_ r ∧ Below w.heap.size w w' := by
 have HB := Aside0.mk (Below.refl w.heap.size w)
 have H : ((nat_Of.f k 1).bind fun t225 => (some t225)) = some r := h
 clear h
 obtain ⟨t225, A10, H⟩ := Option.bind_eq_some_iff.mp H
 try dsimp only at H
 have A1 := Aside0.mk A10
 clear A10
 obtain rfl := Option.some.inj H
 go_enter Tryd.func20, Tryd.ntmps20
 go_wp2_with (first | ((with_reducible refine gate_callee (f := 34) rfl ?_); refine goesL_ (some 1) rfl rfl Tryd.func34 (by kernel_rfl) rfl #[.int .u64 1] rfl qL ?_; (with_reducible refine (nat_Of.calls k 1 t225 _ A1.out).mono ?_); rintro e w2 ⟨v226, rfl, ho0, hb⟩; refine ⟨_, rfl, ?_⟩; have n0_ := Aside0.mk (Kd.R_lower ho0 (below_size qB)); have n1_ := Aside0.mk (below_step qB hb); clear HB; have HO227 := n0_; have HB := n1_; clear n0_ n1_; (try clear hb); (try clear hb2); (try clear hk); (try clear hi); (try clear ho0)))
 go_ret
 exact ⟨_, by first | rfl | (simp [errW_none, errW_some] <;> rfl) | (simp [*, errW_none, errW_some] <;> rfl), by (with_reducible repeat (first | apply Kd.R_alloc | apply Kd.R_drewN | apply Kd.R_drew)); exact HO227.out, qB⟩

end Go.Proofs.YtamhiecepipnjaaDoor.GApproxNear
