-- Written by gprint (wip/gprint), this session's program over the kit's print. Not trusted: Lean checks it.
import Derived.Test.YtamhiecepipnjaaDoorGApproxNearx0
namespace Go.Proofs.YtamhiecepipnjaaDoor.GApproxNear
open Go.RowKit Go.Proofs.YtamhiecepipnjaaDoorW.PrintWords Go.Proofs.YtamhiecepipnjaaDoorW.PrintLast Go.Proofs.YtamhiecepipnjaaDoorW.PrintMore
attribute [local go_sem] max2_int min2_int max_two min_two max_three min_three max_four min_four   -- for this text's walks alone
set_option linter.unusedVariables false
set_option linter.unusedSimpArgs false

/-! ### nat_give: function 74 -/
def nat_give.l0 : Nat → List Int → List Int → Int → Int → Int → Int → Option (List Int)
 | 0, _, _, _, _, _, _ => none
 | k + 1, x0, x1, x2, x6, x9, x10 => if x10 < x9 then (if 0 ≤ (wrap64 (x2 + x10)) then (if (wrap64 (x2 + x10)) < (x0.length : Int) then (if 0 ≤ x10 then (if x10 < (x1.length : Int) then (nat_give.l0 k (x0.set ((wrap64 (x2 + x10)) : Int).toNat ((IntKind.u64.wrap (x6 + (IntKind.u64.wrap ((IntKind.u64.wrap (rd x0 (wrap64 (x2 + x10)))) + (IntKind.u64.wrap (rd x1 x10)))))) % 4294967296)) x1 x2 ((IntKind.u64.wrap (x6 + (IntKind.u64.wrap ((IntKind.u64.wrap (rd x0 (wrap64 (x2 + x10)))) + (IntKind.u64.wrap (rd x1 x10)))))) / 4294967296) x9 (wrap64 (x10 + 1))) else (none)) else (none)) else (none)) else (none)) else (if 0 ≤ (wrap64 (x2 + (x1.length : Int))) then (if (wrap64 (x2 + (x1.length : Int))) < (x0.length : Int) then (some (x0.set ((wrap64 (x2 + (x1.length : Int))) : Int).toNat (((rd x0 (wrap64 (x2 + (x1.length : Int)))) + ((x6) % 4294967296)) % 4294967296))) else (none)) else (none))
def nat_give.f (k : Nat) (l0 : List Int) (l1 : List Int) (a2 : Int) : Option (List Int) := nat_give.l0 k l0 l1 a2 0 (l1.length : Int) 0
theorem nat_give.mono_l : ∀ k, (∀ y0 y1 y2 y3 y4 y5, LeO (nat_give.l0 k y0 y1 y2 y3 y4 y5) (nat_give.l0 (k + 1) y0 y1 y2 y3 y4 y5))
 | 0 => fun _ _ _ _ _ _ r h => by simp [nat_give.l0] at h
 | k + 1 => by
  have ih0 := nat_give.mono_l k
  ·intro y0 y1 y2 y3 y4 y5
   unfold nat_give.l0
   repeat' first
   | (with_reducible exact ih0 _ _ _ _ _ _)
   | (with_reducible exact LeO.refl _)
   | (with_reducible exact LeO.none _)
   | (with_reducible refine LeO.ite ?_ ?_)
   | (with_reducible refine LeO.bind ?_ (fun _ => ?_))
   | exact ih0 _ _ _ _ _ _
   | exact LeO.none _
   | refine LeO.ite ?_ ?_
   | refine LeO.bind ?_ (fun _ => ?_)
theorem nat_give.mono : ∀ a0 a1 a2 k, LeO (nat_give.f k a0 a1 a2) (nat_give.f (k + 1) a0 a1 a2) := by
 intro a0 a1 a2 k
 have ih0 := nat_give.mono_l k
 unfold nat_give.f
 repeat' first
   | (with_reducible exact ih0 _ _ _ _ _ _)
   | (with_reducible exact LeO.refl _)
   | (with_reducible exact LeO.none _)
   | (with_reducible refine LeO.ite ?_ ?_)
   | (with_reducible refine LeO.bind ?_ (fun _ => ?_))
   | exact ih0 _ _ _ _ _ _
   | exact LeO.none _
   | refine LeO.ite ?_ ?_
   | refine LeO.bind ?_ (fun _ => ?_)
set_option maxHeartbeats 8000000 in
set_option maxRecDepth 100000 in
theorem nat_give.calls (k : Nat) (P0_ : Nat → Prop) (u9000_ : Value) (l0 : List Int) (A1 : Option Addr) (c1 : Nat) (l1 : List Int) (a2 : Int) (r : List Int) (w0 w : World) (hB : Below w0.heap.size w0 w) (ho0 : Kd.R (Kd.int .u32) 47 w w0.heap.size P0_ u9000_ l0) (hr1 : ∀ W_, Kept w W_ (fun k_ => P0_ k_) → Kd.C (Kd.int .u32) W_ A1 l1.length l1) (hc1 : l1.length ≤ c1) (h : nat_give.f k l0 l1 a2 = some r) :
  Calls Tryd.prog 74 #[u9000_, .slice A1 l1.length c1, .int .i64 a2] w fun e w' => e = .returned (.tuple #[]) ∧ Kd.R (Kd.int .u32) 47 w' w0.heap.size (fun k_ => (P0_ k_ ∨ w.heap.size ≤ k_)) u9000_ r ∧ Below w0.heap.size w0 w' ∧ Kept w w' (fun k_ => P0_ k_) := by
 have HO0 := Aside0.mk (show Kd.R (Kd.int .u32) 47 w w0.heap.size (fun k_ => (P0_ k_ ∨ w.heap.size ≤ k_)) u9000_ l0 from Kd.R_mono ho0 (fun k_ hk => (.inl hk)))
 have HR1 := Aside0.mk hr1
 have HC1 := Aside0.mk hc1
 clear hr1 hc1
 have HK := Aside0.mk (Kept.refl w (fun k_ => P0_ k_))
 have HW0 := Aside0.mk hB.size
 have HB := Aside0.mk hB
 clear hB
 have H : (nat_give.l0 k l0 l1 a2 0 (l1.length : Int) 0) = some r := h
 clear h
 have H' := Aside0.mk H
 clear H
 go_enter Tryd.func74, Tryd.ntmps74
 go_wp2
 repeat (go_quiet (fail); try go_wp2)
 go_loopg [6, 10] k (fun kq v6 v10 w' => ∃ (x0_1 : List Int) (x6_1 : Int) (x10_1 : Int), v6 = .int .u64 x6_1 ∧ v10 = .int .i64 x10_1 ∧ Aside0 (nat_give.l0 kq x0_1 l1 a2 x6_1 (l1.length : Int) x10_1 = some r) ∧ Aside0 (kq ≤ k) ∧ Aside0 (Kd.R (Kd.int .u32) 47 w' w0.heap.size (fun k_ => (P0_ k_ ∨ w.heap.size ≤ k_)) u9000_ x0_1) ∧ Aside0 (Kept w w' (fun k_ => P0_ k_)) ∧ Aside0 (Below w0.heap.size w0 w'))
 case atStart => exact ⟨(l0), (0), (0), (by first | rfl | (simp; done) | (simp [*]; done)), (by first | rfl | (simp; done) | (simp [*]; done)), H', ⟨Nat.le_refl _⟩, ⟨by (with_reducible repeat (first | apply Kd.R_alloc | apply Kd.R_drewN | apply Kd.R_drew)); exact HO0.out⟩, ⟨by repeat (first | (with_reducible first | exact HK.out | apply Kept.alloc | apply Kept.drewN | apply Kept.drew) | exact HK.out)⟩, ⟨qB⟩⟩
 case round =>
  clear H'
  try clear c1
  try clear p2
  obtain ⟨x0_1, x6_1, x10_1, rfl, rfl, HA, HK1, HO_0, HK, HB⟩ := hrel
  cases gk with
  | zero => exact absurd HA.out (by simp [nat_give.l0])
  | succ k1 =>
   have H := HA.out
   clear HA
   simp only [nat_give.l0] at H
   by_cases c4 : x10_1 < (l1.length : Int)
   ·rw [if_pos c4] at H
    have c4b0 : decide (x10_1 < (l1.length : Int)) = true := decide_eq_true c4
    clear c4
    obtain ⟨ji5, hji5⟩ : ∃ j_ : Int, (wrap64 (a2 + x10_1)) = j_ := ⟨_, rfl⟩
    replace H : (if 0 ≤ (ji5) then (if (ji5) < (x0_1.length : Int) then (if 0 ≤ x10_1 then (if x10_1 < (l1.length : Int) then (nat_give.l0 k1 (x0_1.set ((ji5) : Int).toNat ((IntKind.u64.wrap (x6_1 + (IntKind.u64.wrap ((IntKind.u64.wrap (rd x0_1 (ji5))) + (IntKind.u64.wrap (rd l1 x10_1)))))) % 4294967296)) l1 a2 ((IntKind.u64.wrap (x6_1 + (IntKind.u64.wrap ((IntKind.u64.wrap (rd x0_1 (ji5))) + (IntKind.u64.wrap (rd l1 x10_1)))))) / 4294967296) (l1.length : Int) (wrap64 (x10_1 + 1))) else (none)) else (none)) else (none)) else (none)) = some r := by first | (rw [hji5] at H; exact H) | (simp only [hji5] at H ⊢; exact H)
    have hji5w : (IntKind.i64.wrap (a2 + x10_1)) = ji5 := (i64_w _).trans hji5
    by_cases c6 : 0 ≤ (ji5)
    ·rw [if_pos c6] at H
     have c6b0 : decide (0 ≤ (ji5)) = true := decide_eq_true c6
     clear c6
     by_cases c7 : (ji5) < (x0_1.length : Int)
     ·rw [if_pos c7] at H
      have c7b0 : decide ((ji5) < (x0_1.length : Int)) = true := decide_eq_true c7
      clear c7
      by_cases c8 : 0 ≤ x10_1
      ·rw [if_pos c8] at H
       have c8b0 : decide (0 ≤ x10_1) = true := decide_eq_true c8
       clear c8
       by_cases c9 : x10_1 < (l1.length : Int)
       ·rw [if_pos c9] at H
        have c9b0 : decide (x10_1 < (l1.length : Int)) = true := decide_eq_true c9
        clear c9
        obtain ⟨y154, hy154⟩ : ∃ y_ : List Int, y_ = (x0_1.set ((ji5) : Int).toNat ((IntKind.u64.wrap (x6_1 + (IntKind.u64.wrap ((IntKind.u64.wrap (rd x0_1 (ji5))) + (IntKind.u64.wrap (rd l1 x10_1)))))) % 4294967296)) := ⟨_, rfl⟩
        replace H : (nat_give.l0 k1 y154 l1 a2 ((IntKind.u64.wrap (x6_1 + (IntKind.u64.wrap ((IntKind.u64.wrap (rd x0_1 (ji5))) + (IntKind.u64.wrap (rd l1 x10_1)))))) / 4294967296) (l1.length : Int) (wrap64 (x10_1 + 1))) = some r := by first | (rw [hy154]; with_reducible exact H) | (have H2_ := (Option.bind_some _ _).symm.trans H; rw [hy154]; with_reducible exact H2_) | (have H2_ := (Option.bind_some _ _).symm.trans H; with_reducible exact H2_) | with_reducible exact H | (rw [hy154]; exact H) | exact H
        have Ny154 := Aside0.mk hy154
        clear hy154
        have H' := Aside0.mk H
        clear H
        obtain ⟨Ao11, co11, eo11⟩ := Kd.R_slice HO_0.out
        subst eo11
        have p152 : 0 ≤ ((ji5) : Int) := of_decide_eq_true qA
        have q152 : (ji5) < (x0_1.length : Int) := of_decide_eq_true qA
        obtain ⟨ad152, e152, hx152_0⟩ := Kd.at_int (Kd.R_reads' HO_0.out).2.2 (ji5) p152 q152
        cases e152
        replace p152 := eq_true p152
        replace q152 := eq_true q152
        have p153 : 0 ≤ (x10_1 : Int) := of_decide_eq_true qA
        have q153 : x10_1 < (l1.length : Int) := of_decide_eq_true qA
        obtain ⟨ad153, e153, hx153_0⟩ := Kd.at_int (Kd.C_kept_now HR1.out HK.out) x10_1 p153 q153
        cases e153
        replace p153 := eq_true p153
        replace q153 := eq_true q153
        have p10 : 0 ≤ ((ji5) : Int) := of_decide_eq_true qA
        have q10 : ((ji5) : Int) < ((x0_1.length : Int) : Int) := of_decide_eq_true qA
        obtain ⟨go10, co10, eo10, gb10, gl10, cl10, HG10⟩ := Kd.R_form HO_0.out (by omega)
        (first | cases eo10 | (injection eo10 with ea_ en_ ec_; (first | subst ea_ | (injection ea_ with ea_; subst ea_)); subst ec_; clear en_))
        have GB10 := Aside0.mk gb10
        have GG10 := Aside0.mk HG10
        clear gb10 gl10 HG10
        have HMgo10 := Aside0.mk (show (P0_ go10 ∨ w.heap.size ≤ go10) from (HO_0.out.1 _ rfl))
        (first | simp only [add_plain] at hx152_0 | skip)
        obtain ⟨hx10_0, hf10_0⟩ := Kd.R_celln 0 HO_0.out ((ji5) : Int) p10 q10
        replace p10 := eq_true p10
        replace q10 := eq_true q10
        have HP12 := Kd.R_putg HO_0.out ((ji5) : Int) ((IntKind.u64.wrap (x6_1 + (IntKind.u64.wrap ((IntKind.u64.wrap (rd x0_1 (ji5))) + (IntKind.u64.wrap (rd l1 x10_1)))))) % 4294967296)
        go_wp2_with (first | ((with_reducible refine gate_store (t := 47) (p := 34) rfl ?_); (try (rw [drewN_self wr]; generalize hq_ : World.drewN wr _ = wr; have n0_ := Aside0.mk (Kd.R_at hq_ HO_0.out); have n1_ := Aside0.mk (kept_at hq_ HK.out); have n2_ := Aside0.mk (below_at hq_ HB.out); clear hq_ HO_0 HK HB; have HO_0 := n0_; have HK := n1_; have HB := n2_; clear n0_ n1_ n2_; (try (obtain ⟨hx10_0, hf10_0⟩ := Kd.R_celln 0 HO_0.out ((ji5) : Int) (of_eq_true p10) (of_eq_true q10))); (try (have HP12 := Kd.R_putg HO_0.out ((ji5) : Int) ((IntKind.u64.wrap (x6_1 + (IntKind.u64.wrap ((IntKind.u64.wrap (rd x0_1 (ji5))) + (IntKind.u64.wrap (rd l1 x10_1)))))) % 4294967296))))); refine store_event (t := 47) (p := 34) (v := ?vo_w13) (w1 := (wr.setCell ⟨go10, ((ji5) : Int).toNat, none⟩ (.int .u32 ((IntKind.u64.wrap (x6_1 + (IntKind.u64.wrap ((IntKind.u64.wrap (rd x0_1 (ji5))) + (IntKind.u64.wrap (rd l1 x10_1)))))) % 4294967296)))) ?hg ?ho ?hn ?hr ?_; (case ho => rfl); (case hg => rfl); (case hn => rfl); (case hr => first | (go_simp; done) | (go_simp; rfl)); intro w13 hw; have hg : wr.grownBy w13 (some go10) := (by rw [hw]; exact HP12.2); have hp_ : Kd.R (Kd.int .u32) 47 w13 w0.heap.size (fun k_ => (P0_ k_ ∨ w.heap.size ≤ k_)) (.slice (some ⟨go10, 0, none⟩) x0_1.length co11) y154 := (by rw [hw, Ny154.out]; exact HP12.1); clear HP12; have n0_ := Aside0.mk (hp_); have n1_ := Aside0.mk ((by rw [hw]; exact below_set (HB.out) GB10.out : Below w0.heap.size w0 w13)); have n2_ := Aside0.mk (Kept.of_grown (S := (fun k_ => P0_ k_)) hg (by repeat (first | (with_reducible first | exact HK.out | apply Kept.alloc | apply Kept.drewN | apply Kept.drew) | exact HK.out)) (fun k_ e_ => (HO_0.out.1 k_ e_))); clear HO_0; clear HB; clear HK; have HO_0 := n0_; have HB := n1_; have HK := n2_; clear n0_ n1_ n2_; clear hg hw hp_))
        repeat (go_quiet (first | ((with_reducible refine gate_store (t := 47) (p := 34) rfl ?_); (try (rw [drewN_self wr]; generalize hq_ : World.drewN wr _ = wr; have n0_ := Aside0.mk (Kd.R_at hq_ HO_0.out); have n1_ := Aside0.mk (kept_at hq_ HK.out); have n2_ := Aside0.mk (below_at hq_ HB.out); clear hq_ HO_0 HK HB; have HO_0 := n0_; have HK := n1_; have HB := n2_; clear n0_ n1_ n2_; (try (obtain ⟨hx10_0, hf10_0⟩ := Kd.R_celln 0 HO_0.out ((ji5) : Int) (of_eq_true p10) (of_eq_true q10))); (try (have HP12 := Kd.R_putg HO_0.out ((ji5) : Int) ((IntKind.u64.wrap (x6_1 + (IntKind.u64.wrap ((IntKind.u64.wrap (rd x0_1 (ji5))) + (IntKind.u64.wrap (rd l1 x10_1)))))) % 4294967296))))); refine store_event (t := 47) (p := 34) (v := ?vo_w13) (w1 := (wr.setCell ⟨go10, ((ji5) : Int).toNat, none⟩ (.int .u32 ((IntKind.u64.wrap (x6_1 + (IntKind.u64.wrap ((IntKind.u64.wrap (rd x0_1 (ji5))) + (IntKind.u64.wrap (rd l1 x10_1)))))) % 4294967296)))) ?hg ?ho ?hn ?hr ?_; (case ho => rfl); (case hg => rfl); (case hn => rfl); (case hr => first | (go_simp; done) | (go_simp; rfl)); intro w13 hw; have hg : wr.grownBy w13 (some go10) := (by rw [hw]; exact HP12.2); have hp_ : Kd.R (Kd.int .u32) 47 w13 w0.heap.size (fun k_ => (P0_ k_ ∨ w.heap.size ≤ k_)) (.slice (some ⟨go10, 0, none⟩) x0_1.length co11) y154 := (by rw [hw, Ny154.out]; exact HP12.1); clear HP12; have n0_ := Aside0.mk (hp_); have n1_ := Aside0.mk ((by rw [hw]; exact below_set (HB.out) GB10.out : Below w0.heap.size w0 w13)); have n2_ := Aside0.mk (Kept.of_grown (S := (fun k_ => P0_ k_)) hg (by repeat (first | (with_reducible first | exact HK.out | apply Kept.alloc | apply Kept.drewN | apply Kept.drew) | exact HK.out)) (fun k_ e_ => (HO_0.out.1 k_ e_))); clear HO_0; clear HB; clear HK; have HO_0 := n0_; have HB := n1_; have HK := n2_; clear n0_ n1_ n2_; clear hg hw hp_)); try go_wp2_with (first | ((with_reducible refine gate_store (t := 47) (p := 34) rfl ?_); (try (rw [drewN_self wr]; generalize hq_ : World.drewN wr _ = wr; have n0_ := Aside0.mk (Kd.R_at hq_ HO_0.out); have n1_ := Aside0.mk (kept_at hq_ HK.out); have n2_ := Aside0.mk (below_at hq_ HB.out); clear hq_ HO_0 HK HB; have HO_0 := n0_; have HK := n1_; have HB := n2_; clear n0_ n1_ n2_; (try (obtain ⟨hx10_0, hf10_0⟩ := Kd.R_celln 0 HO_0.out ((ji5) : Int) (of_eq_true p10) (of_eq_true q10))); (try (have HP12 := Kd.R_putg HO_0.out ((ji5) : Int) ((IntKind.u64.wrap (x6_1 + (IntKind.u64.wrap ((IntKind.u64.wrap (rd x0_1 (ji5))) + (IntKind.u64.wrap (rd l1 x10_1)))))) % 4294967296))))); refine store_event (t := 47) (p := 34) (v := ?vo_w13) (w1 := (wr.setCell ⟨go10, ((ji5) : Int).toNat, none⟩ (.int .u32 ((IntKind.u64.wrap (x6_1 + (IntKind.u64.wrap ((IntKind.u64.wrap (rd x0_1 (ji5))) + (IntKind.u64.wrap (rd l1 x10_1)))))) % 4294967296)))) ?hg ?ho ?hn ?hr ?_; (case ho => rfl); (case hg => rfl); (case hn => rfl); (case hr => first | (go_simp; done) | (go_simp; rfl)); intro w13 hw; have hg : wr.grownBy w13 (some go10) := (by rw [hw]; exact HP12.2); have hp_ : Kd.R (Kd.int .u32) 47 w13 w0.heap.size (fun k_ => (P0_ k_ ∨ w.heap.size ≤ k_)) (.slice (some ⟨go10, 0, none⟩) x0_1.length co11) y154 := (by rw [hw, Ny154.out]; exact HP12.1); clear HP12; have n0_ := Aside0.mk (hp_); have n1_ := Aside0.mk ((by rw [hw]; exact below_set (HB.out) GB10.out : Below w0.heap.size w0 w13)); have n2_ := Aside0.mk (Kept.of_grown (S := (fun k_ => P0_ k_)) hg (by repeat (first | (with_reducible first | exact HK.out | apply Kept.alloc | apply Kept.drewN | apply Kept.drew) | exact HK.out)) (fun k_ e_ => (HO_0.out.1 k_ e_))); clear HO_0; clear HB; clear HK; have HO_0 := n0_; have HB := n1_; have HK := n2_; clear n0_ n1_ n2_; clear hg hw hp_)))
        go_roundg k1
        case measure => have := HK1.out; omega
        case rel => exact ⟨(y154), ((IntKind.u64.wrap (x6_1 + (IntKind.u64.wrap ((IntKind.u64.wrap (rd x0_1 (ji5))) + (IntKind.u64.wrap (rd l1 x10_1)))))) / 4294967296), (wrap64 (x10_1 + 1)), (by first | rfl | (simp; done) | (simp only [← hji5] <;> (first | rfl | simp)) | (simp [*]; done)), (by first | rfl | (simp; done) | (simp [*]; done)), H', ⟨by have := HK1.out; omega⟩, ⟨by (with_reducible repeat (first | apply Kd.R_alloc | apply Kd.R_drewN | apply Kd.R_drew)); exact HO_0.out⟩, ⟨by repeat (first | (with_reducible first | exact HK.out | apply Kept.alloc | apply Kept.drewN | apply Kept.drew) | exact HK.out)⟩, ⟨qB⟩⟩
       ·rw [if_neg c9] at H
        exact absurd H (by simp)
      ·rw [if_neg c8] at H
       exact absurd H (by simp)
     ·rw [if_neg c7] at H
      exact absurd H (by simp)
    ·rw [if_neg c6] at H
     exact absurd H (by simp)
   ·rw [if_neg c4] at H
    have c4b0 : decide (x10_1 < (l1.length : Int)) = false := decide_eq_false c4
    clear c4
    obtain ⟨ji14, hji14⟩ : ∃ j_ : Int, (wrap64 (a2 + (l1.length : Int))) = j_ := ⟨_, rfl⟩
    replace H : (if 0 ≤ (ji14) then (if (ji14) < (x0_1.length : Int) then (some (x0_1.set ((ji14) : Int).toNat (((rd x0_1 (ji14)) + ((x6_1) % 4294967296)) % 4294967296))) else (none)) else (none)) = some r := by first | (rw [hji14] at H; exact H) | (simp only [hji14] at H ⊢; exact H)
    have hji14w : (IntKind.i64.wrap (a2 + (l1.length : Int))) = ji14 := (i64_w _).trans hji14
    by_cases c15 : 0 ≤ (ji14)
    ·rw [if_pos c15] at H
     have c15b0 : decide (0 ≤ (ji14)) = true := decide_eq_true c15
     clear c15
     by_cases c16 : (ji14) < (x0_1.length : Int)
     ·rw [if_pos c16] at H
      have c16b0 : decide ((ji14) < (x0_1.length : Int)) = true := decide_eq_true c16
      clear c16
      obtain ⟨y156, hy156⟩ : ∃ y_ : List Int, y_ = (x0_1.set ((ji14) : Int).toNat (((rd x0_1 (ji14)) + ((x6_1) % 4294967296)) % 4294967296)) := ⟨_, rfl⟩
      replace H : (some y156) = some r := by first | (rw [hy156]; with_reducible exact H) | (have H2_ := (Option.bind_some _ _).symm.trans H; rw [hy156]; with_reducible exact H2_) | (have H2_ := (Option.bind_some _ _).symm.trans H; with_reducible exact H2_) | with_reducible exact H | (rw [hy156]; exact H) | exact H
      have Ny156 := Aside0.mk hy156
      clear hy156
      obtain rfl := Option.some.inj H
      obtain ⟨Ao18, co18, eo18⟩ := Kd.R_slice HO_0.out
      subst eo18
      have p155 : 0 ≤ ((ji14) : Int) := of_decide_eq_true qA
      have q155 : (ji14) < (x0_1.length : Int) := of_decide_eq_true qA
      obtain ⟨ad155, e155, hx155_0⟩ := Kd.at_int (Kd.R_reads' HO_0.out).2.2 (ji14) p155 q155
      cases e155
      replace p155 := eq_true p155
      replace q155 := eq_true q155
      have p17 : 0 ≤ ((ji14) : Int) := of_decide_eq_true qA
      have q17 : ((ji14) : Int) < ((x0_1.length : Int) : Int) := of_decide_eq_true qA
      obtain ⟨go17, co17, eo17, gb17, gl17, cl17, HG17⟩ := Kd.R_form HO_0.out (by omega)
      (first | cases eo17 | (injection eo17 with ea_ en_ ec_; (first | subst ea_ | (injection ea_ with ea_; subst ea_)); subst ec_; clear en_))
      have GB17 := Aside0.mk gb17
      have GG17 := Aside0.mk HG17
      clear gb17 gl17 HG17
      have HMgo17 := Aside0.mk (show (P0_ go17 ∨ w.heap.size ≤ go17) from (HO_0.out.1 _ rfl))
      (first | simp only [add_plain] at hx155_0 | skip)
      obtain ⟨hx17_0, hf17_0⟩ := Kd.R_celln 0 HO_0.out ((ji14) : Int) p17 q17
      replace p17 := eq_true p17
      replace q17 := eq_true q17
      have HP19 := Kd.R_putg HO_0.out ((ji14) : Int) (((rd x0_1 (ji14)) + ((x6_1) % 4294967296)) % 4294967296)
      go_wp2_with (first | ((with_reducible refine gate_store (t := 47) (p := 48) rfl ?_); (try (rw [drewN_self wr]; generalize hq_ : World.drewN wr _ = wr; have n0_ := Aside0.mk (Kd.R_at hq_ HO_0.out); have n1_ := Aside0.mk (kept_at hq_ HK.out); have n2_ := Aside0.mk (below_at hq_ HB.out); clear hq_ HO_0 HK HB; have HO_0 := n0_; have HK := n1_; have HB := n2_; clear n0_ n1_ n2_; (try (obtain ⟨hx17_0, hf17_0⟩ := Kd.R_celln 0 HO_0.out ((ji14) : Int) (of_eq_true p17) (of_eq_true q17))); (try (have HP19 := Kd.R_putg HO_0.out ((ji14) : Int) (((rd x0_1 (ji14)) + ((x6_1) % 4294967296)) % 4294967296))))); refine store_event (t := 47) (p := 48) (v := ?vo_w20) (w1 := (wr.setCell ⟨go17, ((ji14) : Int).toNat, none⟩ (.int .u32 (((rd x0_1 (ji14)) + ((x6_1) % 4294967296)) % 4294967296)))) ?hg ?ho ?hn ?hr ?_; (case ho => rfl); (case hg => rfl); (case hn => rfl); (case hr => first | (go_simp; done) | (go_simp; rfl)); intro w20 hw; have hg : wr.grownBy w20 (some go17) := (by rw [hw]; exact HP19.2); have hp_ : Kd.R (Kd.int .u32) 47 w20 w0.heap.size (fun k_ => (P0_ k_ ∨ w.heap.size ≤ k_)) (.slice (some ⟨go17, 0, none⟩) x0_1.length co18) y156 := (by rw [hw, Ny156.out]; exact HP19.1); clear HP19; have n0_ := Aside0.mk (hp_); have n1_ := Aside0.mk ((by rw [hw]; exact below_set (HB.out) GB17.out : Below w0.heap.size w0 w20)); have n2_ := Aside0.mk (Kept.of_grown (S := (fun k_ => P0_ k_)) hg (by repeat (first | (with_reducible first | exact HK.out | apply Kept.alloc | apply Kept.drewN | apply Kept.drew) | exact HK.out)) (fun k_ e_ => (HO_0.out.1 k_ e_))); clear HO_0; clear HB; clear HK; have HO_0 := n0_; have HB := n1_; have HK := n2_; clear n0_ n1_ n2_; clear hg hw hp_))
      repeat (go_quiet (first | ((with_reducible refine gate_store (t := 47) (p := 48) rfl ?_); (try (rw [drewN_self wr]; generalize hq_ : World.drewN wr _ = wr; have n0_ := Aside0.mk (Kd.R_at hq_ HO_0.out); have n1_ := Aside0.mk (kept_at hq_ HK.out); have n2_ := Aside0.mk (below_at hq_ HB.out); clear hq_ HO_0 HK HB; have HO_0 := n0_; have HK := n1_; have HB := n2_; clear n0_ n1_ n2_; (try (obtain ⟨hx17_0, hf17_0⟩ := Kd.R_celln 0 HO_0.out ((ji14) : Int) (of_eq_true p17) (of_eq_true q17))); (try (have HP19 := Kd.R_putg HO_0.out ((ji14) : Int) (((rd x0_1 (ji14)) + ((x6_1) % 4294967296)) % 4294967296))))); refine store_event (t := 47) (p := 48) (v := ?vo_w20) (w1 := (wr.setCell ⟨go17, ((ji14) : Int).toNat, none⟩ (.int .u32 (((rd x0_1 (ji14)) + ((x6_1) % 4294967296)) % 4294967296)))) ?hg ?ho ?hn ?hr ?_; (case ho => rfl); (case hg => rfl); (case hn => rfl); (case hr => first | (go_simp; done) | (go_simp; rfl)); intro w20 hw; have hg : wr.grownBy w20 (some go17) := (by rw [hw]; exact HP19.2); have hp_ : Kd.R (Kd.int .u32) 47 w20 w0.heap.size (fun k_ => (P0_ k_ ∨ w.heap.size ≤ k_)) (.slice (some ⟨go17, 0, none⟩) x0_1.length co18) y156 := (by rw [hw, Ny156.out]; exact HP19.1); clear HP19; have n0_ := Aside0.mk (hp_); have n1_ := Aside0.mk ((by rw [hw]; exact below_set (HB.out) GB17.out : Below w0.heap.size w0 w20)); have n2_ := Aside0.mk (Kept.of_grown (S := (fun k_ => P0_ k_)) hg (by repeat (first | (with_reducible first | exact HK.out | apply Kept.alloc | apply Kept.drewN | apply Kept.drew) | exact HK.out)) (fun k_ e_ => (HO_0.out.1 k_ e_))); clear HO_0; clear HB; clear HK; have HO_0 := n0_; have HB := n1_; have HK := n2_; clear n0_ n1_ n2_; clear hg hw hp_)); try go_wp2_with (first | ((with_reducible refine gate_store (t := 47) (p := 48) rfl ?_); (try (rw [drewN_self wr]; generalize hq_ : World.drewN wr _ = wr; have n0_ := Aside0.mk (Kd.R_at hq_ HO_0.out); have n1_ := Aside0.mk (kept_at hq_ HK.out); have n2_ := Aside0.mk (below_at hq_ HB.out); clear hq_ HO_0 HK HB; have HO_0 := n0_; have HK := n1_; have HB := n2_; clear n0_ n1_ n2_; (try (obtain ⟨hx17_0, hf17_0⟩ := Kd.R_celln 0 HO_0.out ((ji14) : Int) (of_eq_true p17) (of_eq_true q17))); (try (have HP19 := Kd.R_putg HO_0.out ((ji14) : Int) (((rd x0_1 (ji14)) + ((x6_1) % 4294967296)) % 4294967296))))); refine store_event (t := 47) (p := 48) (v := ?vo_w20) (w1 := (wr.setCell ⟨go17, ((ji14) : Int).toNat, none⟩ (.int .u32 (((rd x0_1 (ji14)) + ((x6_1) % 4294967296)) % 4294967296)))) ?hg ?ho ?hn ?hr ?_; (case ho => rfl); (case hg => rfl); (case hn => rfl); (case hr => first | (go_simp; done) | (go_simp; rfl)); intro w20 hw; have hg : wr.grownBy w20 (some go17) := (by rw [hw]; exact HP19.2); have hp_ : Kd.R (Kd.int .u32) 47 w20 w0.heap.size (fun k_ => (P0_ k_ ∨ w.heap.size ≤ k_)) (.slice (some ⟨go17, 0, none⟩) x0_1.length co18) y156 := (by rw [hw, Ny156.out]; exact HP19.1); clear HP19; have n0_ := Aside0.mk (hp_); have n1_ := Aside0.mk ((by rw [hw]; exact below_set (HB.out) GB17.out : Below w0.heap.size w0 w20)); have n2_ := Aside0.mk (Kept.of_grown (S := (fun k_ => P0_ k_)) hg (by repeat (first | (with_reducible first | exact HK.out | apply Kept.alloc | apply Kept.drewN | apply Kept.drew) | exact HK.out)) (fun k_ e_ => (HO_0.out.1 k_ e_))); clear HO_0; clear HB; clear HK; have HO_0 := n0_; have HB := n1_; have HK := n2_; clear n0_ n1_ n2_; clear hg hw hp_)))
      first | go_end0 | ((try simp only [Exit.inBlock, Exit.then]); refine bodyPost_ret (results_none rfl _ _ _) rfl ?_)
      exact ⟨by first | rfl | (simp [errW_none, errW_some] <;> rfl) | (simp only [← hji14]; first | rfl | (simp [errW_none, errW_some] <;> rfl)) | (simp [*, errW_none, errW_some] <;> rfl), by (with_reducible repeat (first | apply Kd.R_alloc | apply Kd.R_drewN | apply Kd.R_drew)); exact HO_0.out, qB, by repeat (first | (with_reducible first | exact HK.out | apply Kept.alloc | apply Kept.drewN | apply Kept.drew) | exact HK.out)⟩
     ·rw [if_neg c16] at H
      exact absurd H (by simp)
    ·rw [if_neg c15] at H
     exact absurd H (by simp)

/-! ### nat_at: function 68 -/
def nat_at.f (l0 : List Int) (a1 : Int) : Option (Int) := if a1 < (l0.length : Int) then (if 0 ≤ a1 then (some (IntKind.u64.wrap (rd l0 a1))) else (none)) else (some 0)
set_option maxHeartbeats 8000000 in
set_option maxRecDepth 100000 in
theorem nat_at.calls (A0 : Option Addr) (c0 : Nat) (l0 : List Int) (a1 : Int) (r : Int) (w : World) (hr0 : Kd.C (Kd.int .u32) w A0 l0.length l0) (hc0 : l0.length ≤ c0) (h : nat_at.f l0 a1 = some r) :
  Calls Tryd.prog 68 #[.slice A0 l0.length c0, .int .i64 a1] w fun e w' => e = .returned (.int .u64 r) ∧ Drawn0 w w' := by
 have HR0 := Aside0.mk hr0
 have HC0 := Aside0.mk hc0
 clear hr0 hc0
 have H : (if a1 < (l0.length : Int) then (if 0 ≤ a1 then (some (IntKind.u64.wrap (rd l0 a1))) else (none)) else (some 0)) = some r := h
 clear h
 by_cases c3 : a1 < (l0.length : Int)
 ·rw [if_pos c3] at H
  have c3b0 : decide (a1 < (l0.length : Int)) = true := decide_eq_true c3
  clear c3
  by_cases c4 : 0 ≤ a1
  ·rw [if_pos c4] at H
   have c4b0 : decide (0 ≤ a1) = true := decide_eq_true c4
   clear c4
   obtain rfl := Option.some.inj H
   have p157 : 0 ≤ (a1 : Int) := of_decide_eq_true qA
   have q157 : a1 < (l0.length : Int) := of_decide_eq_true qA
   obtain ⟨ad157, e157, hx157_0⟩ := Kd.at_int HR0.out a1 p157 q157
   cases e157
   replace p157 := eq_true p157
   replace q157 := eq_true q157
   go_enter Tryd.func68, Tryd.ntmps68
   go_wp2
   go_ret
   exact ⟨by first | rfl | (simp; done) | (simp [*]; done), by repeat (first | exact Drawn0.refl _ | apply Drawn0.step)⟩
  ·rw [if_neg c4] at H
   exact absurd H (by simp)
 ·rw [if_neg c3] at H
  have c3b0 : decide (a1 < (l0.length : Int)) = false := decide_eq_false c3
  clear c3
  obtain rfl := Option.some.inj H
  go_enter Tryd.func68, Tryd.ntmps68
  go_wp2
  go_ret
  exact ⟨by first | rfl | (simp; done) | (simp [*]; done), by repeat (first | exact Drawn0.refl _ | apply Drawn0.step)⟩

/-! ### nat_unshift: function 75 -/
def nat_unshift.l0 : Nat → List Int → Int → List Int → List Int → Int → Int → Option (List Int)
 | 0, _, _, _, _, _, _ => none
 | k + 1, x0, x1, x5, x11, x12, x13 => if x13 < x12 then (if 0 ≤ x13 then (if x13 < (x11.length : Int) then (if 0 ≤ x1 then ((nat_at.f x0 (wrap64 (x13 + 1))).bind fun t162 => (if 0 ≤ (wrap64 (32 - x1)) then (if x13 < (x5.length : Int) then (nat_unshift.l0 k x0 x1 (x5.set (x13 : Int).toNat (Go.bits .or .u32 (shr .u32 (rd x11 x13) x1) ((shl .u64 t162 (wrap64 (32 - x1))) % 4294967296))) x11 x12 (wrap64 (x13 + 1))) else (none)) else (none))) else (none)) else (none)) else (none)) else (some x5)
def nat_unshift.f (k : Nat) (l0 : List Int) (a1 : Int) : Option (List Int) := if 0 ≤ (l0.length : Int) then (if ((l0.length : Int) : Int).toNat ≤ 70368744177664 then (nat_unshift.l0 k l0 a1 (List.replicate ((l0.length : Int) : Int).toNat 0) l0 (l0.length : Int) 0) else (none)) else (none)
theorem nat_unshift.mono_l : ∀ k, (∀ y0 y1 y2 y3 y4 y5, LeO (nat_unshift.l0 k y0 y1 y2 y3 y4 y5) (nat_unshift.l0 (k + 1) y0 y1 y2 y3 y4 y5))
 | 0 => fun _ _ _ _ _ _ r h => by simp [nat_unshift.l0] at h
 | k + 1 => by
  have ih0 := nat_unshift.mono_l k
  ·intro y0 y1 y2 y3 y4 y5
   unfold nat_unshift.l0
   repeat' first
   | (with_reducible exact ih0 _ _ _ _ _ _)
   | (with_reducible exact LeO.refl _)
   | (with_reducible exact LeO.none _)
   | (with_reducible refine LeO.ite ?_ ?_)
   | (with_reducible refine LeO.bind ?_ (fun _ => ?_))
   | exact ih0 _ _ _ _ _ _
   | exact LeO.none _
   | refine LeO.ite ?_ ?_
   | refine LeO.bind ?_ (fun _ => ?_)
theorem nat_unshift.mono : ∀ a0 a1 k, LeO (nat_unshift.f k a0 a1) (nat_unshift.f (k + 1) a0 a1) := by
 intro a0 a1 k
 have ih0 := nat_unshift.mono_l k
 unfold nat_unshift.f
 repeat' first
   | (with_reducible exact ih0 _ _ _ _ _ _)
   | (with_reducible exact LeO.refl _)
   | (with_reducible exact LeO.none _)
   | (with_reducible refine LeO.ite ?_ ?_)
   | (with_reducible refine LeO.bind ?_ (fun _ => ?_))
   | exact ih0 _ _ _ _ _ _
   | exact LeO.none _
   | refine LeO.ite ?_ ?_
   | refine LeO.bind ?_ (fun _ => ?_)
def nat_unshift.T5 : Bool × List (List Nat × List Nat) := (true, [([], []), ([], []), ([], []), ([], []), ([2, 3], [2, 3]), ([], []), ([], []), ([6], [6]), ([5, 7], [5, 7]), ([], []), ([9], [9]), ([8, 10], [8, 10]), ([11], [11]), ([4, 12], [4, 12]), ([0, 1, 0, 1, 2, 3, 4, 5, 6, 7, 8, 9, 10, 11, 12, 13], [0, 1]), ([14, 13, 8, 0, 1, 2, 3, 4, 5, 6, 7, 8, 9, 10, 11, 12, 13], [13, 14])])
def nat_unshift.B5 : List Nat := [0, 0, 0, 0, 12, 0, 0, 64, 224, 0, 512, 2016, 4064, 8188, 16383, 32767]
theorem nat_unshift.tab5 : rtab .any (opsOf Tryd.f75 5) = nat_unshift.T5 := by kernel_rfl
theorem nat_unshift.bits5 : waitsOk nat_unshift.T5.2 nat_unshift.B5 = true := by kernel_rfl
set_option maxHeartbeats 8000000 in
set_option maxRecDepth 100000 in
theorem nat_unshift.calls (k : Nat) (A0 : Option Addr) (c0 : Nat) (l0 : List Int) (a1 : Int) (r : List Int) (w : World) (hr0 : Kd.C (Kd.int .u32) w A0 l0.length l0) (hc0 : l0.length ≤ c0) (h : nat_unshift.f k l0 a1 = some r) :
  Calls Tryd.prog 75 #[.slice A0 l0.length c0, .int .i64 a1] w fun e w' => ∃ v0_ : Value, e = .returned (v0_) ∧ Kd.R (Kd.int .u32) 47 w' w.heap.size (fun _ => True) v0_ r ∧ Below w.heap.size w w' := by
 have HR0 := Aside0.mk hr0
 have HC0 := Aside0.mk hc0
 clear hr0 hc0
 have HB := Aside0.mk (Below.refl w.heap.size w)
 have H : (if 0 ≤ (l0.length : Int) then (if ((l0.length : Int) : Int).toNat ≤ 70368744177664 then (nat_unshift.l0 k l0 a1 (List.replicate ((l0.length : Int) : Int).toNat 0) l0 (l0.length : Int) 0) else (none)) else (none)) = some r := h
 clear h
 by_cases c3 : 0 ≤ (l0.length : Int)
 ·rw [if_pos c3] at H
  have c3b0 := eq_true c3
  have c3b1 : decide (0 ≤ (l0.length : Int)) = true := decide_eq_true c3
  clear c3
  by_cases c4 : ((l0.length : Int) : Int).toNat ≤ 70368744177664
  ·rw [if_pos c4] at H
   have c4b0 := eq_true c4
   have c4b1 : decide (((l0.length : Int) : Int).toNat ≤ 70368744177664) = true := decide_eq_true c4
   clear c4
   obtain ⟨y158, hy158⟩ : ∃ y_ : List Int, y_ = (List.replicate ((l0.length : Int) : Int).toNat 0) := ⟨_, rfl⟩
   replace H : (nat_unshift.l0 k l0 a1 y158 l0 (l0.length : Int) 0) = some r := by first | (rw [hy158]; with_reducible exact H) | (have H2_ := (Option.bind_some _ _).symm.trans H; rw [hy158]; with_reducible exact H2_) | (have H2_ := (Option.bind_some _ _).symm.trans H; with_reducible exact H2_) | with_reducible exact H | (rw [hy158]; exact H) | exact H
   have Ny158 := Aside0.mk hy158
   clear hy158
   have H' := Aside0.mk H
   clear H
   go_enter Tryd.func75, Tryd.ntmps75
   go_wp2_with (first | ((with_reducible refine gate_dst (N := 10) rfl ?_); refine Kd.R_make (Kd.int .u32) _ 47 rfl (N := 10) rfl 22 _ _ rfl (l0.length : Int) rfl rfl Tryd.underlying22 (.int .u32 0) 4 info47 rfl (by decide) (by omega) 0 (ok := fun _ => True) (okp := fun _ => True) rfl (fun _ hk => hk) trivial (of_decide_eq_true qA) (Nat.le_trans (Nat.mul_le_mul_right _ (of_decide_eq_true qA : (l0.length : Int).toNat ≤ 70368744177664)) (by omega)) (Below.refl _ _) (Nat.le_refl _) ?_; intro v159 w5 ho6 hb hg_ hnew_; clear hg_ hnew_; (first | rw [← Ny158.out] at ho6 | (simp only [Int.reduceToNat] at ho6; rw [← Ny158.out] at ho6)); have n0_ := Aside0.mk (Kd.R_lower ho6 (below_size qB)); have n1_ := Aside0.mk (below_step qB hb); clear HB; have HO160 := n0_; have HB := n1_; clear n0_ n1_; clear hb ho6))
   go_loopg [13] k (fun kq v13 w' => ∃ (x5_1 : List Int) (x13_1 : Int), v13 = .int .i64 x13_1 ∧ Aside0 (nat_unshift.l0 kq l0 a1 x5_1 l0 (l0.length : Int) x13_1 = some r) ∧ Aside0 (kq ≤ k) ∧ Aside0 (Kd.R (Kd.int .u32) 47 w' w.heap.size (fun _ => True) v159 x5_1) ∧ Aside0 (Below w.heap.size w w'))
   case atStart => exact ⟨(y158), (0), (by first | rfl | (simp; done) | (simp [*]; done)), H', ⟨Nat.le_refl _⟩, ⟨by (with_reducible repeat (first | apply Kd.R_alloc | apply Kd.R_drewN | apply Kd.R_drew)); exact HO160.out⟩, ⟨qB⟩⟩
   case round =>
    clear H'
    try clear p2
    try clear c3
    try clear c3b0
    try clear c3b1
    try clear c4
    try clear c4b0
    try clear c4b1
    obtain ⟨x5_1, x13_1, rfl, HA, HK1, HO_5, HB⟩ := hrel
    cases gk with
    | zero => exact absurd HA.out (by simp [nat_unshift.l0])
    | succ k1 =>
     have H := HA.out
     clear HA
     simp only [nat_unshift.l0] at H
     by_cases c7 : x13_1 < (l0.length : Int)
     ·rw [if_pos c7] at H
      have c7b0 : decide (x13_1 < (l0.length : Int)) = true := decide_eq_true c7
      clear c7
      by_cases c8 : 0 ≤ x13_1
      ·rw [if_pos c8] at H
       have c8b0 : decide (0 ≤ x13_1) = true := decide_eq_true c8
       clear c8
       by_cases c9 : x13_1 < (l0.length : Int)
       ·rw [if_pos c9] at H
        have c9b0 : decide (x13_1 < (l0.length : Int)) = true := decide_eq_true c9
        clear c9
        by_cases c10 : 0 ≤ a1
        ·rw [if_pos c10] at H
         have c10b0 := eq_true c10
         have c10b1 : decide (0 ≤ a1) = true := decide_eq_true c10
         clear c10
         obtain ⟨ji11, hji11⟩ : ∃ j_ : Int, (shr .u32 (rd l0 x13_1) a1) = j_ := ⟨_, rfl⟩
         replace H : ((nat_at.f l0 (wrap64 (x13_1 + 1))).bind fun t162 => (if 0 ≤ (wrap64 (32 - a1)) then (if x13_1 < (x5_1.length : Int) then (nat_unshift.l0 k1 l0 a1 (x5_1.set (x13_1 : Int).toNat (Go.bits .or .u32 (ji11) ((shl .u64 t162 (wrap64 (32 - a1))) % 4294967296))) l0 (l0.length : Int) (wrap64 (x13_1 + 1))) else (none)) else (none))) = some r := by first | (rw [hji11] at H; exact H) | (simp only [hji11] at H ⊢; exact H)
         have hji11_ : ((rd l0 x13_1) / 2 ^ min a1.toNat 32) = ji11 := hji11
         have hji11z : a1 ≤ 32 → ((rd l0 x13_1) / 2 ^ a1.toNat) = ji11 := shr_small hji11
         obtain ⟨t162, A120, H⟩ := Option.bind_eq_some_iff.mp H
         try dsimp only at H
         have A12 := Aside0.mk A120
         clear A120
         obtain ⟨ji13, hji13⟩ : ∃ j_ : Int, (wrap64 (32 - a1)) = j_ := ⟨_, rfl⟩
         replace H : (if 0 ≤ (ji13) then (if x13_1 < (x5_1.length : Int) then (nat_unshift.l0 k1 l0 a1 (x5_1.set (x13_1 : Int).toNat (Go.bits .or .u32 (ji11) ((shl .u64 t162 (ji13)) % 4294967296))) l0 (l0.length : Int) (wrap64 (x13_1 + 1))) else (none)) else (none)) = some r := by first | (rw [hji13] at H; exact H) | (simp only [hji13] at H ⊢; exact H)
         (try rw [hji13] at A12)
         have hji13w : (IntKind.i64.wrap (32 - a1)) = ji13 := (i64_w _).trans hji13
         by_cases c14 : 0 ≤ (ji13)
         ·rw [if_pos c14] at H
          have c14b0 := eq_true c14
          have c14b1 : decide (0 ≤ (ji13)) = true := decide_eq_true c14
          clear c14
          obtain ⟨ji15, hji15⟩ : ∃ j_ : Int, (shl .u64 t162 (ji13)) = j_ := ⟨_, rfl⟩
          replace H : (if x13_1 < (x5_1.length : Int) then (nat_unshift.l0 k1 l0 a1 (x5_1.set (x13_1 : Int).toNat (Go.bits .or .u32 (ji11) ((ji15) % 4294967296))) l0 (l0.length : Int) (wrap64 (x13_1 + 1))) else (none)) = some r := by first | (rw [hji15] at H; exact H) | (simp only [hji15] at H ⊢; exact H)
          (try rw [hji15] at A12)
          have hji15_ : (IntKind.u64.wrap (t162 * 2 ^ min (ji13).toNat 64)) = ji15 := hji15
          have hji15z : (ji13) ≤ 64 → (IntKind.u64.wrap (t162 * 2 ^ (ji13).toNat)) = ji15 := shl_small hji15
          by_cases c16 : x13_1 < (x5_1.length : Int)
          ·rw [if_pos c16] at H
           have c16b0 : decide (x13_1 < (x5_1.length : Int)) = true := decide_eq_true c16
           clear c16
           obtain ⟨y163, hy163⟩ : ∃ y_ : List Int, y_ = (x5_1.set (x13_1 : Int).toNat (Go.bits .or .u32 (ji11) ((ji15) % 4294967296))) := ⟨_, rfl⟩
           replace H : (nat_unshift.l0 k1 l0 a1 y163 l0 (l0.length : Int) (wrap64 (x13_1 + 1))) = some r := by first | (rw [hy163]; with_reducible exact H) | (have H2_ := (Option.bind_some _ _).symm.trans H; rw [hy163]; with_reducible exact H2_) | (have H2_ := (Option.bind_some _ _).symm.trans H; with_reducible exact H2_) | with_reducible exact H | (rw [hy163]; exact H) | exact H
           have Ny163 := Aside0.mk hy163
           clear hy163
           have H' := Aside0.mk H
           clear H
           have p161 : 0 ≤ (x13_1 : Int) := of_decide_eq_true qA
           have q161 : x13_1 < (l0.length : Int) := of_decide_eq_true qA
           obtain ⟨ad161, e161, hx161_0⟩ := Kd.at_int HR0.out x13_1 p161 q161
           cases e161
           replace hx161_0 := (HB.out.cell (World.block_lt_of_cell? w _ hx161_0)).trans hx161_0
           replace p161 := eq_true p161
           replace q161 := eq_true q161
           try go_wp2
           have n0_ := Aside0.mk (Kd.R_drew HO_5.out)
           have n1_ := Aside0.mk (below_drew1 HB.out)
           clear HO_5
           clear HB
           have HO_5 := n0_
           have HB := n1_
           clear n0_ n1_
           refine start_ (n := 16) (S := fun w' => True) (ds := [15]) #[false, false, false, false, false, false, false, false, false, false, false, false, false, false, false, false] (by kernel_rfl) rfl rfl trivial (fun hHeld => ?_); refine with_tabW nat_unshift.tab5 nat_unshift.bits5 (fun HT_ HW_ => ?_)
           generalize wr.drew = w18 at HO_5 HB hHeld ⊢
           refine qP 0 (some 18) ?_
           refine qP 1 (some 19) ?_
           refine qP 2 (some 20) ?_
           refine qP 3 (some 21) ?_
           refine qP 4 (some 22) ?_
           refine qP 5 (some 23) ?_
           refine qP 6 (some 24) ?_
           refine qP 7 (some 25) ?_
           refine qP 9 (some 27) ?_
           refine qP 10 (some 28) ?_
           refine one_ (i := 8) (N := some 26) #[true, true, true, true, true, true, true, true, true, true, true, false, false, false, false, false] rfl rfl (one_of HT_.out (by kernel_rfl)) (by decide) (fun K hK => ?_)
           refine goes_ Tryd.func68 (by kernel_rfl) rfl #[.slice (some ad161) l0.length c0, .int .i64 (wrap64 (x13_1 + 1))] (by rfl) rfl rfl qL ?_
           with_reducible refine (nat_at.calls _ _ l0 (wrap64 (x13_1 + 1)) t162 _ ?side1 ?side2 A12.out).mono ?_
           (case side1 => exact qC (Kd.C_below HR0.out HB.out))
           (case side2 => exact HC0.out)
           rintro e w' ⟨rfl, ⟨nd, rfl⟩⟩
           refine ⟨_, rfl, ?_⟩
           have p17 : 0 ≤ (x13_1 : Int) := of_decide_eq_true qA
           have q17 : (x13_1 : Int) < ((x5_1.length : Int) : Int) := of_decide_eq_true qA
           obtain ⟨go17, co17, eo17, gb17, gl17, cl17, HG17⟩ := Kd.R_form HO_5.out (by omega)
           (first | cases eo17 | (injection eo17 with ea_ en_ ec_; (first | subst ea_ | (injection ea_ with ea_; subst ea_)); subst ec_; clear en_))
           have GB17 := Aside0.mk gb17
           have GG17 := Aside0.mk HG17
           clear gb17 gl17 HG17
           obtain ⟨hx17_0, hf17_0⟩ := Kd.R_celln 0 HO_5.out (x13_1 : Int) p17 q17
           replace p17 := eq_true p17
           replace q17 := eq_true q17
           have HP19 := Kd.R_putn HO_5.out (x13_1 : Int) (Go.bits .or .u32 (ji11) ((ji15) % 4294967296))
           rw [← Ny163.out] at HP19
           have HQ19 := Aside0.mk HP19
           clear HP19
           refine hK.out _ _ trivial (fun hHeld => ?_)
           clear hK K
           refine norm_ (a' := ?_) ?_ ?_
           rotate_left
           ·show Act.put _ (some 26) _ = _
            simp only [Act.put, List.setIfInBounds_toArray, List.set_cons_zero, List.set_cons_succ, i64_w, i32_w]
            rfl
           refine qP 11 (some 29) ?_
           refine qP 12 (some 30) ?_
           refine qP 13 (some 31) ?_
           refine qP 14 (some 32) ?_
           refine last_ (i := 15) (N := none) #[true, true, true, true, true, true, true, true, true, true, true, true, true, true, true, true] rfl rfl (one_of HT_.out (by kernel_rfl)) (by decide) (fun K hK => ?_)
           refine skip_ (w1 := ?_) (by rfl) rfl ?_ ?_
           rotate_left
           ·go_simp
            rfl
           refine hK.out _ _ ?_
           clear hK K
           refine done_ (done_of HT_.out (by kernel_rfl)) ?_
           try go_wp2
           go_roundg k1
           case measure => have := HK1.out; omega
           case rel => exact ⟨(y163), (wrap64 (x13_1 + 1)), (by first | rfl | (simp; done) | (simp [*]; done)), H', ⟨by have := HK1.out; omega⟩, ⟨by (with_reducible repeat (first | apply Kd.R_alloc | apply Kd.R_drewN | apply Kd.R_drew)); exact HQ19.out⟩, ⟨by repeat (first | (with_reducible first | exact HB.out | apply below_alloc | apply pw_below_drewN | apply below_drew1 | refine below_set ?_ GB17.out) | exact HB.out)⟩⟩
          ·rw [if_neg c16] at H
           exact absurd H (by simp)
         ·rw [if_neg c14] at H
          exact absurd H (by simp)
        ·rw [if_neg c10] at H
         exact absurd H (by simp)
       ·rw [if_neg c9] at H
        exact absurd H (by simp)
      ·rw [if_neg c8] at H
       exact absurd H (by simp)
     ·rw [if_neg c7] at H
      have c7b0 : decide (x13_1 < (l0.length : Int)) = false := decide_eq_false c7
      clear c7
      obtain rfl := Option.some.inj H
      go_wp2
      go_ret
      exact ⟨_, by first | rfl | (simp [errW_none, errW_some] <;> rfl) | (simp [*, errW_none, errW_some] <;> rfl), by (with_reducible repeat (first | apply Kd.R_alloc | apply Kd.R_drewN | apply Kd.R_drew)); exact HO_5.out, qB⟩
  ·rw [if_neg c4] at H
   exact absurd H (by simp)
 ·rw [if_neg c3] at H
  exact absurd H (by simp)

end Go.Proofs.YtamhiecepipnjaaDoor.GApproxNear
