-- Written by gprint (wip/gprint), this session's program over the kit's print. Not trusted: Lean checks it.
import Derived.Test.YtamhiecepipnjaaDoorGApproxNearx0
namespace Go.Proofs.YtamhiecepipnjaaDoor.GApproxNear
open Go.RowKit Go.Proofs.YtamhiecepipnjaaDoorW.PrintWords Go.Proofs.YtamhiecepipnjaaDoorW.PrintLast Go.Proofs.YtamhiecepipnjaaDoorW.PrintMore
attribute [local go_sem] max2_int min2_int max_two min_two max_three min_three max_four min_four   -- for this text's walks alone
set_option linter.unusedVariables false
set_option linter.unusedSimpArgs false

/-! ### nat_shift: function 71 -/
def nat_shift.l0 : Nat → List Int → Int → List Int → Int → List Int → Int → Int → Option (List Int)
 | 0, _, _, _, _, _, _, _ => none
 | k + 1, x0, x1, x5, x6, x13, x14, x15 => if x15 < x14 then (if 0 ≤ x15 then (if x15 < (x13.length : Int) then (if 0 ≤ x1 then (if x15 < (x5.length : Int) then (if 0 ≤ (wrap64 (32 - x1)) then (nat_shift.l0 k x0 x1 (x5.set (x15 : Int).toNat (Go.bits .or .u32 (shl .u32 (rd x13 x15) x1) x6)) ((shr .u64 (IntKind.u64.wrap (rd x13 x15)) (wrap64 (32 - x1))) % 4294967296) x13 x14 (wrap64 (x15 + 1))) else (none)) else (none)) else (none)) else (none)) else (none)) else (if 0 ≤ (x0.length : Int) then (if (x0.length : Int) < (x5.length : Int) then (some (x5.set ((x0.length : Int) : Int).toNat x6)) else (none)) else (none))
def nat_shift.f (k : Nat) (l0 : List Int) (a1 : Int) : Option (List Int) := if 0 ≤ (wrap64 ((l0.length : Int) + 1)) then (if (wrap64 ((l0.length : Int) + 1) : Int).toNat ≤ 70368744177664 then (nat_shift.l0 k l0 a1 (List.replicate (wrap64 ((l0.length : Int) + 1) : Int).toNat 0) 0 l0 (l0.length : Int) 0) else (none)) else (none)
theorem nat_shift.mono_l : ∀ k, (∀ y0 y1 y2 y3 y4 y5 y6, LeO (nat_shift.l0 k y0 y1 y2 y3 y4 y5 y6) (nat_shift.l0 (k + 1) y0 y1 y2 y3 y4 y5 y6))
 | 0 => fun _ _ _ _ _ _ _ r h => by simp [nat_shift.l0] at h
 | k + 1 => by
  have ih0 := nat_shift.mono_l k
  ·intro y0 y1 y2 y3 y4 y5 y6
   unfold nat_shift.l0
   repeat' first
   | (with_reducible exact ih0 _ _ _ _ _ _ _)
   | (with_reducible exact LeO.refl _)
   | (with_reducible exact LeO.none _)
   | (with_reducible refine LeO.ite ?_ ?_)
   | (with_reducible refine LeO.bind ?_ (fun _ => ?_))
   | exact ih0 _ _ _ _ _ _ _
   | exact LeO.none _
   | refine LeO.ite ?_ ?_
   | refine LeO.bind ?_ (fun _ => ?_)
theorem nat_shift.mono : ∀ a0 a1 k, LeO (nat_shift.f k a0 a1) (nat_shift.f (k + 1) a0 a1) := by
 intro a0 a1 k
 have ih0 := nat_shift.mono_l k
 unfold nat_shift.f
 repeat' first
   | (with_reducible exact ih0 _ _ _ _ _ _ _)
   | (with_reducible exact LeO.refl _)
   | (with_reducible exact LeO.none _)
   | (with_reducible refine LeO.ite ?_ ?_)
   | (with_reducible refine LeO.bind ?_ (fun _ => ?_))
   | exact ih0 _ _ _ _ _ _ _
   | exact LeO.none _
   | refine LeO.ite ?_ ?_
   | refine LeO.bind ?_ (fun _ => ?_)
set_option maxHeartbeats 8000000 in
set_option maxRecDepth 100000 in
theorem nat_shift.calls (k : Nat) (A0 : Option Addr) (c0 : Nat) (l0 : List Int) (a1 : Int) (r : List Int) (w : World) (hr0 : Kd.C (Kd.int .u32) w A0 l0.length l0) (hc0 : l0.length ≤ c0) (h : nat_shift.f k l0 a1 = some r) :
  Calls Tryd.prog 71 #[.slice A0 l0.length c0, .int .i64 a1] w fun e w' => ∃ v0_ : Value, e = .returned (v0_) ∧ Kd.R (Kd.int .u32) 47 w' w.heap.size (fun _ => True) v0_ r ∧ Below w.heap.size w w' := by
 have HR0 := Aside0.mk hr0
 have HC0 := Aside0.mk hc0
 clear hr0 hc0
 have HB := Aside0.mk (Below.refl w.heap.size w)
 have H : (if 0 ≤ (wrap64 ((l0.length : Int) + 1)) then (if (wrap64 ((l0.length : Int) + 1) : Int).toNat ≤ 70368744177664 then (nat_shift.l0 k l0 a1 (List.replicate (wrap64 ((l0.length : Int) + 1) : Int).toNat 0) 0 l0 (l0.length : Int) 0) else (none)) else (none)) = some r := h
 clear h
 obtain ⟨ji3, hji3⟩ : ∃ j_ : Int, (wrap64 ((l0.length : Int) + 1)) = j_ := ⟨_, rfl⟩
 replace H : (if 0 ≤ (ji3) then (if (ji3 : Int).toNat ≤ 70368744177664 then (nat_shift.l0 k l0 a1 (List.replicate (ji3 : Int).toNat 0) 0 l0 (l0.length : Int) 0) else (none)) else (none)) = some r := by first | (rw [hji3] at H; exact H) | (simp only [hji3] at H ⊢; exact H)
 have hji3w : (IntKind.i64.wrap ((l0.length : Int) + 1)) = ji3 := (i64_w _).trans hji3
 by_cases c4 : 0 ≤ (ji3)
 ·rw [if_pos c4] at H
  have c4b0 := eq_true c4
  have c4b1 : decide (0 ≤ (ji3)) = true := decide_eq_true c4
  clear c4
  by_cases c5 : (ji3 : Int).toNat ≤ 70368744177664
  ·rw [if_pos c5] at H
   have c5b0 := eq_true c5
   have c5b1 : decide ((ji3 : Int).toNat ≤ 70368744177664) = true := decide_eq_true c5
   clear c5
   obtain ⟨y134, hy134⟩ : ∃ y_ : List Int, y_ = (List.replicate (ji3 : Int).toNat 0) := ⟨_, rfl⟩
   replace H : (nat_shift.l0 k l0 a1 y134 0 l0 (l0.length : Int) 0) = some r := by first | (rw [hy134]; with_reducible exact H) | (have H2_ := (Option.bind_some _ _).symm.trans H; rw [hy134]; with_reducible exact H2_) | (have H2_ := (Option.bind_some _ _).symm.trans H; with_reducible exact H2_) | with_reducible exact H | (rw [hy134]; exact H) | exact H
   have Ny134 := Aside0.mk hy134
   clear hy134
   have H' := Aside0.mk H
   clear H
   go_enter Tryd.func71, Tryd.ntmps71
   go_wp2_with (first | ((with_reducible refine gate_dst (N := 12) rfl ?_); refine Kd.R_make (Kd.int .u32) _ 47 rfl (N := 12) rfl 22 _ _ rfl ji3 rfl rfl Tryd.underlying22 (.int .u32 0) 4 info47 rfl (by decide) (by omega) 0 (ok := fun _ => True) (okp := fun _ => True) rfl (fun _ hk => hk) trivial (of_decide_eq_true qA) (Nat.le_trans (Nat.mul_le_mul_right _ (of_decide_eq_true qA : ji3.toNat ≤ 70368744177664)) (by omega)) (Below.refl _ _) (Nat.le_refl _) ?_; intro v135 w6 ho7 hb hg_ hnew_; clear hg_ hnew_; (first | rw [← Ny134.out] at ho7 | (simp only [Int.reduceToNat] at ho7; rw [← Ny134.out] at ho7)); have n0_ := Aside0.mk (Kd.R_lower ho7 (below_size qB)); have n1_ := Aside0.mk (below_step qB hb); clear HB; have HO136 := n0_; have HB := n1_; clear n0_ n1_; clear hb ho7))
   go_loopg [6, 15] k (fun kq v6 v15 w' => ∃ (x5_1 : List Int) (x6_1 : Int) (x15_1 : Int), v6 = .int .u32 x6_1 ∧ v15 = .int .i64 x15_1 ∧ Aside0 (nat_shift.l0 kq l0 a1 x5_1 x6_1 l0 (l0.length : Int) x15_1 = some r) ∧ Aside0 (kq ≤ k) ∧ Aside0 (Kd.R (Kd.int .u32) 47 w' w.heap.size (fun _ => True) v135 x5_1) ∧ Aside0 (Below w.heap.size w w'))
   case atStart => exact ⟨(y134), (0), (0), (by first | rfl | (simp; done) | (simp [*]; done)), (by first | rfl | (simp; done) | (simp [*]; done)), H', ⟨Nat.le_refl _⟩, ⟨by (with_reducible repeat (first | apply Kd.R_alloc | apply Kd.R_drewN | apply Kd.R_drew)); exact HO136.out⟩, ⟨qB⟩⟩
   case round =>
    clear H'
    try clear p2
    try clear c4
    try clear c4b0
    try clear c4b1
    try clear c5
    try clear c5b0
    try clear c5b1
    try clear p6
    try clear c7
    obtain ⟨x5_1, x6_1, x15_1, rfl, rfl, HA, HK1, HO_5, HB⟩ := hrel
    cases gk with
    | zero => exact absurd HA.out (by simp [nat_shift.l0])
    | succ k1 =>
     have H := HA.out
     clear HA
     simp only [nat_shift.l0] at H
     by_cases c8 : x15_1 < (l0.length : Int)
     ·rw [if_pos c8] at H
      have c8b0 : decide (x15_1 < (l0.length : Int)) = true := decide_eq_true c8
      clear c8
      by_cases c9 : 0 ≤ x15_1
      ·rw [if_pos c9] at H
       have c9b0 : decide (0 ≤ x15_1) = true := decide_eq_true c9
       clear c9
       by_cases c10 : x15_1 < (l0.length : Int)
       ·rw [if_pos c10] at H
        have c10b0 : decide (x15_1 < (l0.length : Int)) = true := decide_eq_true c10
        clear c10
        by_cases c11 : 0 ≤ a1
        ·rw [if_pos c11] at H
         have c11b0 := eq_true c11
         have c11b1 : decide (0 ≤ a1) = true := decide_eq_true c11
         clear c11
         obtain ⟨ji12, hji12⟩ : ∃ j_ : Int, (shl .u32 (rd l0 x15_1) a1) = j_ := ⟨_, rfl⟩
         replace H : (if x15_1 < (x5_1.length : Int) then (if 0 ≤ (wrap64 (32 - a1)) then (nat_shift.l0 k1 l0 a1 (x5_1.set (x15_1 : Int).toNat (Go.bits .or .u32 (ji12) x6_1)) ((shr .u64 (IntKind.u64.wrap (rd l0 x15_1)) (wrap64 (32 - a1))) % 4294967296) l0 (l0.length : Int) (wrap64 (x15_1 + 1))) else (none)) else (none)) = some r := by first | (rw [hji12] at H; exact H) | (simp only [hji12] at H ⊢; exact H)
         have hji12_ : (IntKind.u32.wrap ((rd l0 x15_1) * 2 ^ min a1.toNat 32)) = ji12 := hji12
         have hji12z : a1 ≤ 32 → (IntKind.u32.wrap ((rd l0 x15_1) * 2 ^ a1.toNat)) = ji12 := shl_small hji12
         by_cases c13 : x15_1 < (x5_1.length : Int)
         ·rw [if_pos c13] at H
          have c13b0 : decide (x15_1 < (x5_1.length : Int)) = true := decide_eq_true c13
          clear c13
          obtain ⟨y138, hy138⟩ : ∃ y_ : List Int, y_ = (x5_1.set (x15_1 : Int).toNat (Go.bits .or .u32 (ji12) x6_1)) := ⟨_, rfl⟩
          replace H : (if 0 ≤ (wrap64 (32 - a1)) then (nat_shift.l0 k1 l0 a1 y138 ((shr .u64 (IntKind.u64.wrap (rd l0 x15_1)) (wrap64 (32 - a1))) % 4294967296) l0 (l0.length : Int) (wrap64 (x15_1 + 1))) else (none)) = some r := by first | (rw [hy138]; with_reducible exact H) | (have H2_ := (Option.bind_some _ _).symm.trans H; rw [hy138]; with_reducible exact H2_) | (have H2_ := (Option.bind_some _ _).symm.trans H; with_reducible exact H2_) | with_reducible exact H | (rw [hy138]; exact H) | exact H
          have Ny138 := Aside0.mk hy138
          clear hy138
          obtain ⟨ji15, hji15⟩ : ∃ j_ : Int, (wrap64 (32 - a1)) = j_ := ⟨_, rfl⟩
          replace H : (if 0 ≤ (ji15) then (nat_shift.l0 k1 l0 a1 y138 ((shr .u64 (IntKind.u64.wrap (rd l0 x15_1)) (ji15)) % 4294967296) l0 (l0.length : Int) (wrap64 (x15_1 + 1))) else (none)) = some r := by first | (rw [hji15] at H; exact H) | (simp only [hji15] at H ⊢; exact H)
          have hji15w : (IntKind.i64.wrap (32 - a1)) = ji15 := (i64_w _).trans hji15
          by_cases c16 : 0 ≤ (ji15)
          ·rw [if_pos c16] at H
           have c16b0 := eq_true c16
           have c16b1 : decide (0 ≤ (ji15)) = true := decide_eq_true c16
           clear c16
           obtain ⟨ji17, hji17⟩ : ∃ j_ : Int, (shr .u64 (IntKind.u64.wrap (rd l0 x15_1)) (ji15)) = j_ := ⟨_, rfl⟩
           replace H : (nat_shift.l0 k1 l0 a1 y138 ((ji17) % 4294967296) l0 (l0.length : Int) (wrap64 (x15_1 + 1))) = some r := by first | (rw [hji17] at H; exact H) | (simp only [hji17] at H ⊢; exact H)
           have hji17_ : ((IntKind.u64.wrap (rd l0 x15_1)) / 2 ^ min (ji15).toNat 64) = ji17 := hji17
           have hji17z : (ji15) ≤ 64 → ((IntKind.u64.wrap (rd l0 x15_1)) / 2 ^ (ji15).toNat) = ji17 := shr_small hji17
           have H' := Aside0.mk H
           clear H
           have p137 : 0 ≤ (x15_1 : Int) := of_decide_eq_true qA
           have q137 : x15_1 < (l0.length : Int) := of_decide_eq_true qA
           obtain ⟨ad137, e137, hx137_0⟩ := Kd.at_int HR0.out x15_1 p137 q137
           cases e137
           replace hx137_0 := (HB.out.cell (World.block_lt_of_cell? w _ hx137_0)).trans hx137_0
           replace p137 := eq_true p137
           replace q137 := eq_true q137
           have p14 : 0 ≤ (x15_1 : Int) := of_decide_eq_true qA
           have q14 : (x15_1 : Int) < ((x5_1.length : Int) : Int) := of_decide_eq_true qA
           obtain ⟨go14, co14, eo14, gb14, gl14, cl14, HG14⟩ := Kd.R_form HO_5.out (by omega)
           (first | cases eo14 | (injection eo14 with ea_ en_ ec_; (first | subst ea_ | (injection ea_ with ea_; subst ea_)); subst ec_; clear en_))
           have GB14 := Aside0.mk gb14
           have GG14 := Aside0.mk HG14
           clear gb14 gl14 HG14
           obtain ⟨hx14_0, hf14_0⟩ := Kd.R_celln 0 HO_5.out (x15_1 : Int) p14 q14
           replace p14 := eq_true p14
           replace q14 := eq_true q14
           have HP18 := Kd.R_putg HO_5.out (x15_1 : Int) (Go.bits .or .u32 (ji12) x6_1)
           go_wp2_with (first | ((with_reducible refine gate_store (t := 47) (p := 27) rfl ?_); refine store_event (t := 47) (p := 27) (v := ?vo_w19) (w1 := (wr.setCell ⟨go14, (x15_1 : Int).toNat, none⟩ (.int .u32 (Go.bits .or .u32 (ji12) x6_1)))) ?hg ?ho ?hn ?hr ?_; (case ho => rfl); (case hg => rfl); (case hn => rfl); (case hr => first | (go_simp; done) | (go_simp; rfl)); intro w19 hw; have hg : wr.grownBy w19 (some go14) := (by rw [hw]; exact HP18.2); have hp_ : Kd.R (Kd.int .u32) 47 w19 w.heap.size (fun _ => True) (.slice (some ⟨go14, 0, none⟩) x5_1.length co14) y138 := (by rw [hw, Ny138.out]; exact HP18.1); clear HP18; have n0_ := Aside0.mk (hp_); have n1_ := Aside0.mk ((by rw [hw]; exact below_set (HB.out) GB14.out : Below w.heap.size w w19)); clear HO_5; clear HB; have HO_5 := n0_; have HB := n1_; clear n0_ n1_; clear hg hw hp_))
           go_roundg k1
           case measure => have := HK1.out; omega
           case rel => exact ⟨(y138), ((ji17) % 4294967296), (wrap64 (x15_1 + 1)), (by first | rfl | (simp; done) | (simp only [← hji17] <;> (first | rfl | simp)) | (simp [*]; done)), (by first | rfl | (simp; done) | (simp [*]; done)), H', ⟨by have := HK1.out; omega⟩, ⟨by (with_reducible repeat (first | apply Kd.R_alloc | apply Kd.R_drewN | apply Kd.R_drew)); exact HO_5.out⟩, ⟨qB⟩⟩
          ·rw [if_neg c16] at H
           exact absurd H (by simp)
         ·rw [if_neg c13] at H
          exact absurd H (by simp)
        ·rw [if_neg c11] at H
         exact absurd H (by simp)
       ·rw [if_neg c10] at H
        exact absurd H (by simp)
      ·rw [if_neg c9] at H
       exact absurd H (by simp)
     ·rw [if_neg c8] at H
      have c8b0 : decide (x15_1 < (l0.length : Int)) = false := decide_eq_false c8
      clear c8
      by_cases c20 : 0 ≤ (l0.length : Int)
      ·rw [if_pos c20] at H
       have c20b0 : decide (0 ≤ (l0.length : Int)) = true := decide_eq_true c20
       have c20b1 : decide (0 ≤ l0.length) = true := decide_eq_true (by omega)
       clear c20
       by_cases c21 : (l0.length : Int) < (x5_1.length : Int)
       ·rw [if_pos c21] at H
        have c21b0 : decide ((l0.length : Int) < (x5_1.length : Int)) = true := decide_eq_true c21
        have c21b1 : decide (l0.length < x5_1.length) = true := decide_eq_true (Int.ofNat_lt.mp c21)
        clear c21
        obtain ⟨y139, hy139⟩ : ∃ y_ : List Int, y_ = (x5_1.set ((l0.length : Int) : Int).toNat x6_1) := ⟨_, rfl⟩
        replace H : (some y139) = some r := by first | (rw [hy139]; with_reducible exact H) | (have H2_ := (Option.bind_some _ _).symm.trans H; rw [hy139]; with_reducible exact H2_) | (have H2_ := (Option.bind_some _ _).symm.trans H; with_reducible exact H2_) | with_reducible exact H | (rw [hy139]; exact H) | exact H
        have Ny139 := Aside0.mk hy139
        clear hy139
        obtain rfl := Option.some.inj H
        have p22 : 0 ≤ ((l0.length : Int) : Int) := of_decide_eq_true qA
        have q22 : ((l0.length : Int) : Int) < ((x5_1.length : Int) : Int) := of_decide_eq_true qA
        obtain ⟨go22, co22, eo22, gb22, gl22, cl22, HG22⟩ := Kd.R_form HO_5.out (by omega)
        (first | cases eo22 | (injection eo22 with ea_ en_ ec_; (first | subst ea_ | (injection ea_ with ea_; subst ea_)); subst ec_; clear en_))
        have GB22 := Aside0.mk gb22
        have GG22 := Aside0.mk HG22
        clear gb22 gl22 HG22
        obtain ⟨hx22_0, hf22_0⟩ := Kd.R_celln 0 HO_5.out ((l0.length : Int) : Int) p22 q22
        (try simp only [Int.toNat_natCast] at hx22_0 hf22_0)
        replace p22 := eq_true p22
        replace q22 := eq_true q22
        have HP23 := Kd.R_putg HO_5.out ((l0.length : Int) : Int) x6_1
        go_wp2_with (first | ((with_reducible refine gate_store (t := 47) (p := 39) rfl ?_); refine store_event (t := 47) (p := 39) (v := ?vo_w24) (w1 := (wr.setCell ⟨go22, ((l0.length : Int) : Int).toNat, none⟩ (.int .u32 x6_1))) ?hg ?ho ?hn ?hr ?_; (case ho => rfl); (case hg => rfl); (case hn => rfl); (case hr => first | (go_simp; done) | (go_simp; rfl)); intro w24 hw; have hg : wr.grownBy w24 (some go22) := (by rw [hw]; exact HP23.2); have hp_ : Kd.R (Kd.int .u32) 47 w24 w.heap.size (fun _ => True) (.slice (some ⟨go22, 0, none⟩) x5_1.length co22) y139 := (by rw [hw, Ny139.out]; exact HP23.1); clear HP23; have n0_ := Aside0.mk (hp_); have n1_ := Aside0.mk ((by rw [hw]; exact below_set (HB.out) GB22.out : Below w.heap.size w w24)); clear HO_5; clear HB; have HO_5 := n0_; have HB := n1_; clear n0_ n1_; clear hg hw hp_))
        go_ret
        exact ⟨_, by first | rfl | (simp [errW_none, errW_some] <;> rfl) | (simp only [← hji3]; first | rfl | (simp [errW_none, errW_some] <;> rfl)) | (simp [*, errW_none, errW_some] <;> rfl), by (with_reducible repeat (first | apply Kd.R_alloc | apply Kd.R_drewN | apply Kd.R_drew)); exact HO_5.out, qB⟩
       ·rw [if_neg c21] at H
        exact absurd H (by simp)
      ·rw [if_neg c20] at H
       exact absurd H (by simp)
  ·rw [if_neg c5] at H
   exact absurd H (by simp)
 ·rw [if_neg c4] at H
  exact absurd H (by simp)

/-! ### nat_guess: function 72 -/
mutual
def nat_guess.l0 : Nat → List Int → List Int → Int → Int → Int → Int → Option (Int)
 | 0, _, _, _, _, _, _ => none
 | k + 1, x0, x1, x2, x7, x9, x10 => if x9 > 4294967295 then (nat_guess.j1 k x0 x1 x2 x7 x9 x10 true) else (if 0 ≤ (wrap64 (x7 - 2)) then (if (wrap64 (x7 - 2)) < (x1.length : Int) then (if 0 ≤ (wrap64 ((wrap64 (x2 + x7)) - 2)) then (if (wrap64 ((wrap64 (x2 + x7)) - 2)) < (x0.length : Int) then (nat_guess.j1 k x0 x1 x2 x7 x9 x10 (decide ((IntKind.u64.wrap (x9 * (IntKind.u64.wrap (rd x1 (wrap64 (x7 - 2)))))) > (Go.bits .or .u64 (IntKind.u64.wrap (x10 * 4294967296)) (IntKind.u64.wrap (rd x0 (wrap64 ((wrap64 (x2 + x7)) - 2)))))))) else (none)) else (none)) else (none)) else (none))
def nat_guess.j1 : Nat → List Int → List Int → Int → Int → Int → Int → Bool → Option (Int)
 | 0, _, _, _, _, _, _, _ => none
 | k + 1, x0, x1, x2, x7, x9, x10, x69 => if x69 = true then (if 0 ≤ (wrap64 (x7 - 1)) then (if (wrap64 (x7 - 1)) < (x1.length : Int) then (if (IntKind.u64.wrap (x10 + (IntKind.u64.wrap (rd x1 (wrap64 (x7 - 1)))))) > 4294967295 then (some (IntKind.u64.wrap (x9 - 1))) else (nat_guess.l0 k x0 x1 x2 x7 (IntKind.u64.wrap (x9 - 1)) (IntKind.u64.wrap (x10 + (IntKind.u64.wrap (rd x1 (wrap64 (x7 - 1)))))))) else (none)) else (none)) else (some x9)
end
def nat_guess.f (k : Nat) (l0 : List Int) (l1 : List Int) (a2 : Int) : Option (Int) := if 0 ≤ (wrap64 (a2 + (l1.length : Int))) then (if (wrap64 (a2 + (l1.length : Int))) < (l0.length : Int) then (if 0 ≤ (wrap64 ((wrap64 (a2 + (l1.length : Int))) - 1)) then (if (wrap64 ((wrap64 (a2 + (l1.length : Int))) - 1)) < (l0.length : Int) then (if 0 ≤ (wrap64 ((l1.length : Int) - 1)) then (if (wrap64 ((l1.length : Int) - 1)) < (l1.length : Int) then (if (IntKind.u64.wrap (rd l1 (wrap64 ((l1.length : Int) - 1)))) = 0 then (none) else (nat_guess.l0 k l0 l1 a2 (l1.length : Int) (IntKind.u64.wrap (Int.tdiv (Go.bits .or .u64 (IntKind.u64.wrap ((IntKind.u64.wrap (rd l0 (wrap64 (a2 + (l1.length : Int))))) * 4294967296)) (IntKind.u64.wrap (rd l0 (wrap64 ((wrap64 (a2 + (l1.length : Int))) - 1))))) (IntKind.u64.wrap (rd l1 (wrap64 ((l1.length : Int) - 1)))))) (Int.tmod (Go.bits .or .u64 (IntKind.u64.wrap ((IntKind.u64.wrap (rd l0 (wrap64 (a2 + (l1.length : Int))))) * 4294967296)) (IntKind.u64.wrap (rd l0 (wrap64 ((wrap64 (a2 + (l1.length : Int))) - 1))))) (IntKind.u64.wrap (rd l1 (wrap64 ((l1.length : Int) - 1))))))) else (none)) else (none)) else (none)) else (none)) else (none)) else (none)
theorem nat_guess.mono_l : ∀ k, (∀ y0 y1 y2 y3 y4 y5, LeO (nat_guess.l0 k y0 y1 y2 y3 y4 y5) (nat_guess.l0 (k + 1) y0 y1 y2 y3 y4 y5)) ∧ (∀ y0 y1 y2 y3 y4 y5 y6, LeO (nat_guess.j1 k y0 y1 y2 y3 y4 y5 y6) (nat_guess.j1 (k + 1) y0 y1 y2 y3 y4 y5 y6))
 | 0 => ⟨fun _ _ _ _ _ _ r h => by simp [nat_guess.l0] at h, fun _ _ _ _ _ _ _ r h => by simp [nat_guess.j1] at h⟩
 | k + 1 => by
  obtain ⟨ih0, ih1⟩ := nat_guess.mono_l k
  refine ⟨?_, ?_⟩
  ·intro y0 y1 y2 y3 y4 y5
   unfold nat_guess.l0
   repeat' first
   | (with_reducible exact ih0 _ _ _ _ _ _)
   | (with_reducible exact ih1 _ _ _ _ _ _ _)
   | (with_reducible exact LeO.refl _)
   | (with_reducible exact LeO.none _)
   | (with_reducible refine LeO.ite ?_ ?_)
   | (with_reducible refine LeO.bind ?_ (fun _ => ?_))
   | exact ih0 _ _ _ _ _ _
   | exact ih1 _ _ _ _ _ _ _
   | exact LeO.none _
   | refine LeO.ite ?_ ?_
   | refine LeO.bind ?_ (fun _ => ?_)
  ·intro y0 y1 y2 y3 y4 y5 y6
   unfold nat_guess.j1
   repeat' first
   | (with_reducible exact ih0 _ _ _ _ _ _)
   | (with_reducible exact ih1 _ _ _ _ _ _ _)
   | (with_reducible exact LeO.refl _)
   | (with_reducible exact LeO.none _)
   | (with_reducible refine LeO.ite ?_ ?_)
   | (with_reducible refine LeO.bind ?_ (fun _ => ?_))
   | exact ih0 _ _ _ _ _ _
   | exact ih1 _ _ _ _ _ _ _
   | exact LeO.none _
   | refine LeO.ite ?_ ?_
   | refine LeO.bind ?_ (fun _ => ?_)
theorem nat_guess.mono : ∀ a0 a1 a2 k, LeO (nat_guess.f k a0 a1 a2) (nat_guess.f (k + 1) a0 a1 a2) := by
 intro a0 a1 a2 k
 obtain ⟨ih0, ih1⟩ := nat_guess.mono_l k
 unfold nat_guess.f
 repeat' first
   | (with_reducible exact ih0 _ _ _ _ _ _)
   | (with_reducible exact ih1 _ _ _ _ _ _ _)
   | (with_reducible exact LeO.refl _)
   | (with_reducible exact LeO.none _)
   | (with_reducible refine LeO.ite ?_ ?_)
   | (with_reducible refine LeO.bind ?_ (fun _ => ?_))
   | exact ih0 _ _ _ _ _ _
   | exact ih1 _ _ _ _ _ _ _
   | exact LeO.none _
   | refine LeO.ite ?_ ?_
   | refine LeO.bind ?_ (fun _ => ?_)
set_option maxHeartbeats 8000000 in
set_option maxRecDepth 100000 in
theorem nat_guess.calls (k : Nat) (A0 : Option Addr) (c0 : Nat) (l0 : List Int) (A1 : Option Addr) (c1 : Nat) (l1 : List Int) (a2 : Int) (r : Int) (w : World) (hr0 : Kd.C (Kd.int .u32) w A0 l0.length l0) (hc0 : l0.length ≤ c0) (hr1 : Kd.C (Kd.int .u32) w A1 l1.length l1) (hc1 : l1.length ≤ c1) (h : nat_guess.f k l0 l1 a2 = some r) :
  Calls Tryd.prog 72 #[.slice A0 l0.length c0, .slice A1 l1.length c1, .int .i64 a2] w fun e w' => e = .returned (.int .u64 r) ∧ Drawn0 w w' := by
 have HR0 := Aside0.mk hr0
 have HC0 := Aside0.mk hc0
 clear hr0 hc0
 have HR1 := Aside0.mk hr1
 have HC1 := Aside0.mk hc1
 clear hr1 hc1
 have H : (if 0 ≤ (wrap64 (a2 + (l1.length : Int))) then (if (wrap64 (a2 + (l1.length : Int))) < (l0.length : Int) then (if 0 ≤ (wrap64 ((wrap64 (a2 + (l1.length : Int))) - 1)) then (if (wrap64 ((wrap64 (a2 + (l1.length : Int))) - 1)) < (l0.length : Int) then (if 0 ≤ (wrap64 ((l1.length : Int) - 1)) then (if (wrap64 ((l1.length : Int) - 1)) < (l1.length : Int) then (if (IntKind.u64.wrap (rd l1 (wrap64 ((l1.length : Int) - 1)))) = 0 then (none) else (nat_guess.l0 k l0 l1 a2 (l1.length : Int) (IntKind.u64.wrap (Int.tdiv (Go.bits .or .u64 (IntKind.u64.wrap ((IntKind.u64.wrap (rd l0 (wrap64 (a2 + (l1.length : Int))))) * 4294967296)) (IntKind.u64.wrap (rd l0 (wrap64 ((wrap64 (a2 + (l1.length : Int))) - 1))))) (IntKind.u64.wrap (rd l1 (wrap64 ((l1.length : Int) - 1)))))) (Int.tmod (Go.bits .or .u64 (IntKind.u64.wrap ((IntKind.u64.wrap (rd l0 (wrap64 (a2 + (l1.length : Int))))) * 4294967296)) (IntKind.u64.wrap (rd l0 (wrap64 ((wrap64 (a2 + (l1.length : Int))) - 1))))) (IntKind.u64.wrap (rd l1 (wrap64 ((l1.length : Int) - 1))))))) else (none)) else (none)) else (none)) else (none)) else (none)) else (none)) = some r := h
 clear h
 obtain ⟨ji4, hji4⟩ : ∃ j_ : Int, (wrap64 (a2 + (l1.length : Int))) = j_ := ⟨_, rfl⟩
 replace H : (if 0 ≤ (ji4) then (if (ji4) < (l0.length : Int) then (if 0 ≤ (wrap64 ((ji4) - 1)) then (if (wrap64 ((ji4) - 1)) < (l0.length : Int) then (if 0 ≤ (wrap64 ((l1.length : Int) - 1)) then (if (wrap64 ((l1.length : Int) - 1)) < (l1.length : Int) then (if (IntKind.u64.wrap (rd l1 (wrap64 ((l1.length : Int) - 1)))) = 0 then (none) else (nat_guess.l0 k l0 l1 a2 (l1.length : Int) (IntKind.u64.wrap (Int.tdiv (Go.bits .or .u64 (IntKind.u64.wrap ((IntKind.u64.wrap (rd l0 (ji4))) * 4294967296)) (IntKind.u64.wrap (rd l0 (wrap64 ((ji4) - 1))))) (IntKind.u64.wrap (rd l1 (wrap64 ((l1.length : Int) - 1)))))) (Int.tmod (Go.bits .or .u64 (IntKind.u64.wrap ((IntKind.u64.wrap (rd l0 (ji4))) * 4294967296)) (IntKind.u64.wrap (rd l0 (wrap64 ((ji4) - 1))))) (IntKind.u64.wrap (rd l1 (wrap64 ((l1.length : Int) - 1))))))) else (none)) else (none)) else (none)) else (none)) else (none)) else (none)) = some r := by first | (rw [hji4] at H; exact H) | (simp only [hji4] at H ⊢; exact H)
 have hji4w : (IntKind.i64.wrap (a2 + (l1.length : Int))) = ji4 := (i64_w _).trans hji4
 by_cases c5 : 0 ≤ (ji4)
 ·rw [if_pos c5] at H
  have c5b0 : decide (0 ≤ (ji4)) = true := decide_eq_true c5
  clear c5
  by_cases c6 : (ji4) < (l0.length : Int)
  ·rw [if_pos c6] at H
   have c6b0 : decide ((ji4) < (l0.length : Int)) = true := decide_eq_true c6
   clear c6
   obtain ⟨ji7, hji7⟩ : ∃ j_ : Int, (wrap64 ((ji4) - 1)) = j_ := ⟨_, rfl⟩
   replace H : (if 0 ≤ (ji7) then (if (ji7) < (l0.length : Int) then (if 0 ≤ (wrap64 ((l1.length : Int) - 1)) then (if (wrap64 ((l1.length : Int) - 1)) < (l1.length : Int) then (if (IntKind.u64.wrap (rd l1 (wrap64 ((l1.length : Int) - 1)))) = 0 then (none) else (nat_guess.l0 k l0 l1 a2 (l1.length : Int) (IntKind.u64.wrap (Int.tdiv (Go.bits .or .u64 (IntKind.u64.wrap ((IntKind.u64.wrap (rd l0 (ji4))) * 4294967296)) (IntKind.u64.wrap (rd l0 (ji7)))) (IntKind.u64.wrap (rd l1 (wrap64 ((l1.length : Int) - 1)))))) (Int.tmod (Go.bits .or .u64 (IntKind.u64.wrap ((IntKind.u64.wrap (rd l0 (ji4))) * 4294967296)) (IntKind.u64.wrap (rd l0 (ji7)))) (IntKind.u64.wrap (rd l1 (wrap64 ((l1.length : Int) - 1))))))) else (none)) else (none)) else (none)) else (none)) = some r := by first | (rw [hji7] at H; exact H) | (simp only [hji7] at H ⊢; exact H)
   have hji7w : (IntKind.i64.wrap ((ji4) - 1)) = ji7 := (i64_w _).trans hji7
   by_cases c8 : 0 ≤ (ji7)
   ·rw [if_pos c8] at H
    have c8b0 : decide (0 ≤ (ji7)) = true := decide_eq_true c8
    clear c8
    by_cases c9 : (ji7) < (l0.length : Int)
    ·rw [if_pos c9] at H
     have c9b0 : decide ((ji7) < (l0.length : Int)) = true := decide_eq_true c9
     clear c9
     obtain ⟨ji10, hji10⟩ : ∃ j_ : Int, (wrap64 ((l1.length : Int) - 1)) = j_ := ⟨_, rfl⟩
     replace H : (if 0 ≤ (ji10) then (if (ji10) < (l1.length : Int) then (if (IntKind.u64.wrap (rd l1 (ji10))) = 0 then (none) else (nat_guess.l0 k l0 l1 a2 (l1.length : Int) (IntKind.u64.wrap (Int.tdiv (Go.bits .or .u64 (IntKind.u64.wrap ((IntKind.u64.wrap (rd l0 (ji4))) * 4294967296)) (IntKind.u64.wrap (rd l0 (ji7)))) (IntKind.u64.wrap (rd l1 (ji10))))) (Int.tmod (Go.bits .or .u64 (IntKind.u64.wrap ((IntKind.u64.wrap (rd l0 (ji4))) * 4294967296)) (IntKind.u64.wrap (rd l0 (ji7)))) (IntKind.u64.wrap (rd l1 (ji10)))))) else (none)) else (none)) = some r := by first | (rw [hji10] at H; exact H) | (simp only [hji10] at H ⊢; exact H)
     have hji10w : (IntKind.i64.wrap ((l1.length : Int) - 1)) = ji10 := (i64_w _).trans hji10
     by_cases c11 : 0 ≤ (ji10)
     ·rw [if_pos c11] at H
      have c11b0 : decide (0 ≤ (ji10)) = true := decide_eq_true c11
      clear c11
      by_cases c12 : (ji10) < (l1.length : Int)
      ·rw [if_pos c12] at H
       have c12b0 : decide ((ji10) < (l1.length : Int)) = true := decide_eq_true c12
       clear c12
       by_cases c13 : (IntKind.u64.wrap (rd l1 (ji10))) = 0
       ·rw [if_pos c13] at H
        exact absurd H (by simp)
       ·rw [if_neg c13] at H
        have c13b0 : ((IntKind.u64.wrap (rd l1 (ji10))) == 0) = false := beq_eq_false_iff_ne.mpr c13
        have c13b1 : ((IntKind.u64.wrap (rd l1 (ji10))) != 0) = true := bne_iff_ne.mpr c13
        have H' := Aside0.mk H
        clear H
        have p140 : 0 ≤ ((ji4) : Int) := of_decide_eq_true qA
        have q140 : (ji4) < (l0.length : Int) := of_decide_eq_true qA
        obtain ⟨ad140, e140, hx140_0⟩ := Kd.at_int HR0.out (ji4) p140 q140
        cases e140
        replace p140 := eq_true p140
        replace q140 := eq_true q140
        have p141 : 0 ≤ ((ji7) : Int) := of_decide_eq_true qA
        have q141 : (ji7) < (l0.length : Int) := of_decide_eq_true qA
        obtain ⟨ad141, e141, hx141_0⟩ := Kd.at_int HR0.out (ji7) p141 q141
        obtain rfl : ad140 = ad141 := (by injection e141)
        replace p141 := eq_true p141
        replace q141 := eq_true q141
        have p142 : 0 ≤ ((ji10) : Int) := of_decide_eq_true qA
        have q142 : (ji10) < (l1.length : Int) := of_decide_eq_true qA
        obtain ⟨ad142, e142, hx142_0⟩ := Kd.at_int HR1.out (ji10) p142 q142
        cases e142
        replace p142 := eq_true p142
        replace q142 := eq_true q142
        have p143 : 0 ≤ ((ji10) : Int) := of_decide_eq_true qA
        have q143 : (ji10) < (l1.length : Int) := of_decide_eq_true qA
        obtain ⟨ad143, e143, hx143_0⟩ := Kd.at_int HR1.out (ji10) p143 q143
        obtain rfl : ad142 = ad143 := (by injection e143)
        replace p143 := eq_true p143
        replace q143 := eq_true q143
        go_enter Tryd.func72, Tryd.ntmps72
        go_wp2
        repeat (go_quiet (fail); try go_wp2)
        go_loopg [9, 10] k (fun kq v9 v10 w' => ∃ (x9_1 : Int) (x10_1 : Int), v9 = .int .u64 x9_1 ∧ v10 = .int .u64 x10_1 ∧ Aside0 (nat_guess.l0 kq l0 l1 a2 (l1.length : Int) x9_1 x10_1 = some r) ∧ Aside0 (kq ≤ k) ∧ Drawn0 w w')
        case atStart => exact ⟨(IntKind.u64.wrap (Int.tdiv (Go.bits .or .u64 (IntKind.u64.wrap ((IntKind.u64.wrap (rd l0 (ji4))) * 4294967296)) (IntKind.u64.wrap (rd l0 (ji7)))) (IntKind.u64.wrap (rd l1 (ji10))))), (Int.tmod (Go.bits .or .u64 (IntKind.u64.wrap ((IntKind.u64.wrap (rd l0 (ji4))) * 4294967296)) (IntKind.u64.wrap (rd l0 (ji7)))) (IntKind.u64.wrap (rd l1 (ji10)))), (by first | rfl | (simp; done) | (simp only [← hji4, ← hji7, ← hji10] <;> (first | rfl | simp)) | (simp [*]; done)), (by first | rfl | (simp; done) | (simp only [← hji4, ← hji7, ← hji10] <;> (first | rfl | simp)) | (simp [*]; done)), H', ⟨Nat.le_refl _⟩, by repeat (first | exact Drawn0.refl _ | apply Drawn0.step)⟩
        case round =>
         clear H'
         try clear c1
         try clear p1
         try clear q1
         try clear hx1
         try clear p2
         try clear c5
         try clear c5b0
         try clear c6
         try clear c6b0
         try clear p6
         try clear c7
         try clear c8
         try clear c8b0
         try clear c9
         try clear c9b0
         try clear c11
         try clear c11b0
         try clear c12
         try clear c12b0
         try clear c13
         try clear c13b0
         try clear c13b1
         try clear hx140_0
         try clear hx141_0
         try clear hx142_0
         try clear hx143_0
         try clear p140
         try clear p141
         try clear p142
         try clear p143
         try clear q140
         try clear q141
         try clear q142
         try clear q143
         obtain ⟨x9_1, x10_1, rfl, rfl, HA, HK1, ⟨m1, rfl⟩⟩ := hrel
         cases gk with
         | zero => exact absurd HA.out (by simp [nat_guess.l0])
         | succ k1 =>
          have H := HA.out
          clear HA
          simp only [nat_guess.l0] at H
          have HC14 := Aside0.mk H
          clear H
          go_upto_region 4 with (fail)
          repeat (go_quiet (fail); go_upto_region 4 with (fail))
          go_cut [69] (fun v69 wc => ∃ (kq : Nat) (x69_13 : Bool), v69 = .bool x69_13 ∧ Aside0 (nat_guess.j1 kq l0 l1 a2 (l1.length : Int) x9_1 x10_1 x69_13 = some r) ∧ Aside0 (kq ≤ k1) ∧ Drawn0 w wc)
          case first =>
           have H := HC14.out
           clear HC14
           by_cases c15 : x9_1 > 4294967295
           ·rw [if_pos c15] at H
            have c15b0 : decide (4294967295 < x9_1) = true := decide_eq_true c15
            clear c15
            (first | rw [c15b0] | (simp only [i64_w, i32_w]; rw [c15b0]) | skip)
            have H' := Aside0.mk H
            clear H
            go_wp2
            repeat (go_quiet (fail); try go_wp2)
            go_meet
            case rel => exact ⟨_, (true), (by first | rfl | (simp; done) | (simp [*]; done)), H', ⟨by have := HK1.out; first | omega | exact Nat.le_refl _⟩, by repeat (first | exact Drawn0.refl _ | apply Drawn0.step)⟩
           ·rw [if_neg c15] at H
            have c15b0 : decide (4294967295 < x9_1) = false := decide_eq_false c15
            clear c15
            (first | rw [c15b0] | (simp only [i64_w, i32_w]; rw [c15b0]) | skip)
            obtain ⟨ji16, hji16⟩ : ∃ j_ : Int, (wrap64 ((l1.length : Int) - 2)) = j_ := ⟨_, rfl⟩
            replace H : (if 0 ≤ (ji16) then (if (ji16) < (l1.length : Int) then (if 0 ≤ (wrap64 ((wrap64 (a2 + (l1.length : Int))) - 2)) then (if (wrap64 ((wrap64 (a2 + (l1.length : Int))) - 2)) < (l0.length : Int) then (nat_guess.j1 k1 l0 l1 a2 (l1.length : Int) x9_1 x10_1 (decide ((IntKind.u64.wrap (x9_1 * (IntKind.u64.wrap (rd l1 (ji16))))) > (Go.bits .or .u64 (IntKind.u64.wrap (x10_1 * 4294967296)) (IntKind.u64.wrap (rd l0 (wrap64 ((wrap64 (a2 + (l1.length : Int))) - 2)))))))) else (none)) else (none)) else (none)) else (none)) = some r := by first | (rw [hji16] at H; exact H) | (simp only [hji16] at H ⊢; exact H)
            have hji16w : (IntKind.i64.wrap ((l1.length : Int) - 2)) = ji16 := (i64_w _).trans hji16
            by_cases c17 : 0 ≤ (ji16)
            ·rw [if_pos c17] at H
             have c17b0 : decide (0 ≤ (ji16)) = true := decide_eq_true c17
             clear c17
             by_cases c18 : (ji16) < (l1.length : Int)
             ·rw [if_pos c18] at H
              have c18b0 : decide ((ji16) < (l1.length : Int)) = true := decide_eq_true c18
              clear c18
              obtain ⟨ji19, hji19⟩ : ∃ j_ : Int, (wrap64 ((wrap64 (a2 + (l1.length : Int))) - 2)) = j_ := ⟨_, rfl⟩
              (try (have hji19_ji4 : (wrap64 (ji4 - 2)) = ji19 := by rw [← hji4]; exact hji19))
              (try (have hji19_ji4w : (IntKind.i64.wrap (ji4 - 2)) = ji19 := (i64_w _).trans hji19_ji4))
              replace H : (if 0 ≤ (ji19) then (if (ji19) < (l0.length : Int) then (nat_guess.j1 k1 l0 l1 a2 (l1.length : Int) x9_1 x10_1 (decide ((IntKind.u64.wrap (x9_1 * (IntKind.u64.wrap (rd l1 (ji16))))) > (Go.bits .or .u64 (IntKind.u64.wrap (x10_1 * 4294967296)) (IntKind.u64.wrap (rd l0 (ji19))))))) else (none)) else (none)) = some r := by first | (rw [hji19] at H; exact H) | (simp only [hji19] at H ⊢; exact H)
              have hji19w : (IntKind.i64.wrap ((wrap64 (a2 + (l1.length : Int))) - 2)) = ji19 := (i64_w _).trans hji19
              by_cases c20 : 0 ≤ (ji19)
              ·rw [if_pos c20] at H
               have c20b0 : decide (0 ≤ (ji19)) = true := decide_eq_true c20
               clear c20
               by_cases c21 : (ji19) < (l0.length : Int)
               ·rw [if_pos c21] at H
                have c21b0 : decide ((ji19) < (l0.length : Int)) = true := decide_eq_true c21
                clear c21
                have H' := Aside0.mk H
                clear H
                have p144 : 0 ≤ ((ji16) : Int) := of_decide_eq_true qA
                have q144 : (ji16) < (l1.length : Int) := of_decide_eq_true qA
                obtain ⟨ad144, e144, hx144_0⟩ := Kd.at_int HR1.out (ji16) p144 q144
                obtain rfl : ad142 = ad144 := (by injection e144)
                replace p144 := eq_true p144
                replace q144 := eq_true q144
                have p145 : 0 ≤ ((ji19) : Int) := of_decide_eq_true qA
                have q145 : (ji19) < (l0.length : Int) := of_decide_eq_true qA
                obtain ⟨ad145, e145, hx145_0⟩ := Kd.at_int HR0.out (ji19) p145 q145
                obtain rfl : ad140 = ad145 := (by injection e145)
                replace p145 := eq_true p145
                replace q145 := eq_true q145
                go_wp2
                repeat (go_quiet (fail); try go_wp2)
                go_meet
                case rel => exact ⟨_, (decide ((IntKind.u64.wrap (x9_1 * (IntKind.u64.wrap (rd l1 (ji16))))) > (Go.bits .or .u64 (IntKind.u64.wrap (x10_1 * 4294967296)) (IntKind.u64.wrap (rd l0 (ji19)))))), (by first | rfl | (simp; done) | (simp only [← hji16, ← hji19] <;> (first | rfl | simp)) | (simp [*]; done)), H', ⟨by have := HK1.out; first | omega | exact Nat.le_refl _⟩, by repeat (first | exact Drawn0.refl _ | apply Drawn0.step)⟩
               ·rw [if_neg c21] at H
                exact absurd H (by simp)
              ·rw [if_neg c20] at H
               exact absurd H (by simp)
             ·rw [if_neg c18] at H
              exact absurd H (by simp)
            ·rw [if_neg c17] at H
             exact absurd H (by simp)
          case rest =>
           clear HC14
           try clear c1
           try clear p1
           try clear q1
           try clear hx1
           try clear c2
           try clear p2
           try clear c5
           try clear c5b0
           try clear c6
           try clear c6b0
           try clear p6
           try clear c7
           try clear c8
           try clear c8b0
           try clear c9
           try clear c9b0
           try clear c11
           try clear c11b0
           try clear c12
           try clear c12b0
           try clear c13
           try clear c13b0
           try clear c13b1
           try clear p14
           try clear q14
           try clear hx14
           try clear c15
           try clear c15b0
           try clear c17
           try clear c17b0
           try clear c18
           try clear c18b0
           try clear c20
           try clear c20b0
           try clear c21
           try clear c21b0
           try clear hx140_0
           try clear hx141_0
           try clear hx142_0
           try clear hx143_0
           try clear hx144_0
           try clear hx145_0
           try clear p1
           try clear p140
           try clear p141
           try clear p142
           try clear p143
           try clear p144
           try clear p145
           try clear p2
           try clear p6
           try clear q1
           try clear q140
           try clear q141
           try clear q142
           try clear q143
           try clear q144
           try clear q145
           obtain ⟨kq, x69_13, rfl, HA, HJ13, ⟨mc13, rfl⟩⟩ := hcut
           cases kq with
           | zero => exact absurd HA.out (by simp [nat_guess.j1])
           | succ kj13 =>
            have H := HA.out
            clear HA
            simp only [nat_guess.j1] at H
            by_cases c22 : x69_13 = true
            ·subst c22
             have H1 : (if 0 ≤ (wrap64 ((l1.length : Int) - 1)) then (if (wrap64 ((l1.length : Int) - 1)) < (l1.length : Int) then (if (IntKind.u64.wrap (x10_1 + (IntKind.u64.wrap (rd l1 (wrap64 ((l1.length : Int) - 1)))))) > 4294967295 then (some (IntKind.u64.wrap (x9_1 - 1))) else (nat_guess.l0 kj13 l0 l1 a2 (l1.length : Int) (IntKind.u64.wrap (x9_1 - 1)) (IntKind.u64.wrap (x10_1 + (IntKind.u64.wrap (rd l1 (wrap64 ((l1.length : Int) - 1)))))))) else (none)) else (none)) = some r := by rw [if_pos rfl] at H; exact H
             clear H
             have H := H1
             clear H1
             obtain ⟨ji23, hji23⟩ : ∃ j_ : Int, (wrap64 ((l1.length : Int) - 1)) = j_ := ⟨_, rfl⟩
             obtain rfl : ji23 = ji10 := by rw [← hji23]; exact hji10
             replace H : (if 0 ≤ (ji23) then (if (ji23) < (l1.length : Int) then (if (IntKind.u64.wrap (x10_1 + (IntKind.u64.wrap (rd l1 (ji23))))) > 4294967295 then (some (IntKind.u64.wrap (x9_1 - 1))) else (nat_guess.l0 kj13 l0 l1 a2 (l1.length : Int) (IntKind.u64.wrap (x9_1 - 1)) (IntKind.u64.wrap (x10_1 + (IntKind.u64.wrap (rd l1 (ji23))))))) else (none)) else (none)) = some r := by first | (rw [hji23] at H; exact H) | (simp only [hji23] at H ⊢; exact H)
             have hji23w : (IntKind.i64.wrap ((l1.length : Int) - 1)) = ji23 := (i64_w _).trans hji23
             by_cases c24 : 0 ≤ (ji23)
             ·rw [if_pos c24] at H
              have c24b0 : decide (0 ≤ (ji23)) = true := decide_eq_true c24
              clear c24
              by_cases c25 : (ji23) < (l1.length : Int)
              ·rw [if_pos c25] at H
               have c25b0 : decide ((ji23) < (l1.length : Int)) = true := decide_eq_true c25
               clear c25
               by_cases c26 : (IntKind.u64.wrap (x10_1 + (IntKind.u64.wrap (rd l1 (ji23))))) > 4294967295
               ·rw [if_pos c26] at H
                have c26b0 : decide (4294967295 < (IntKind.u64.wrap (x10_1 + (IntKind.u64.wrap (rd l1 (ji23)))))) = true := decide_eq_true c26
                clear c26
                obtain rfl := Option.some.inj H
                have p146 : 0 ≤ ((ji23) : Int) := of_decide_eq_true qA
                have q146 : (ji23) < (l1.length : Int) := of_decide_eq_true qA
                obtain ⟨ad146, e146, hx146_0⟩ := Kd.at_int HR1.out (ji23) p146 q146
                obtain rfl : ad142 = ad146 := (by injection e146)
                replace p146 := eq_true p146
                replace q146 := eq_true q146
                go_wp2
                repeat (go_quiet (fail); try go_wp2)
                go_ret
                exact ⟨by first | rfl | (simp; done) | (simp only [← hji4, ← hji7, ← hji10, ← hji23] <;> (first | rfl | simp)) | (simp [*]; done), by repeat (first | exact Drawn0.refl _ | apply Drawn0.step)⟩
               ·rw [if_neg c26] at H
                have c26b0 : decide (4294967295 < (IntKind.u64.wrap (x10_1 + (IntKind.u64.wrap (rd l1 (ji23)))))) = false := decide_eq_false c26
                clear c26
                have H' := Aside0.mk H
                clear H
                have p146 : 0 ≤ ((ji23) : Int) := of_decide_eq_true qA
                have q146 : (ji23) < (l1.length : Int) := of_decide_eq_true qA
                obtain ⟨ad146, e146, hx146_0⟩ := Kd.at_int HR1.out (ji23) p146 q146
                obtain rfl : ad142 = ad146 := (by injection e146)
                replace p146 := eq_true p146
                replace q146 := eq_true q146
                go_wp2
                repeat (go_quiet (fail); try go_wp2)
                go_roundg kj13
                case measure => have := HK1.out; have := HJ13.out; omega
                case rel => exact ⟨(IntKind.u64.wrap (x9_1 - 1)), (IntKind.u64.wrap (x10_1 + (IntKind.u64.wrap (rd l1 (ji23))))), (by first | rfl | (simp; done) | (simp [*]; done)), (by first | rfl | (simp; done) | (simp only [← hji23] <;> (first | rfl | simp)) | (simp [*]; done)), H', ⟨by have := HK1.out; have := HJ13.out; omega⟩, by repeat (first | exact Drawn0.refl _ | apply Drawn0.step)⟩
              ·rw [if_neg c25] at H
               exact absurd H (by simp)
             ·rw [if_neg c24] at H
              exact absurd H (by simp)
            ·replace c22 := Bool.eq_false_iff.mpr c22
             subst c22
             have H1 : (some x9_1) = some r := by rw [if_neg (show ¬ (false = true) by decide)] at H; exact H
             clear H
             have H := H1
             clear H1
             obtain rfl := Option.some.inj H
             go_wp2
             repeat (go_quiet (fail); try go_wp2)
             go_ret
             exact ⟨by first | rfl | (simp; done) | (simp only [← hji4, ← hji7, ← hji10] <;> (first | rfl | simp)) | (simp [*]; done), by repeat (first | exact Drawn0.refl _ | apply Drawn0.step)⟩
      ·rw [if_neg c12] at H
       exact absurd H (by simp)
     ·rw [if_neg c11] at H
      exact absurd H (by simp)
    ·rw [if_neg c9] at H
     exact absurd H (by simp)
   ·rw [if_neg c8] at H
    exact absurd H (by simp)
  ·rw [if_neg c6] at H
   exact absurd H (by simp)
 ·rw [if_neg c5] at H
  exact absurd H (by simp)

/-! ### nat_take: function 73 -/
def nat_take.l0 : Nat → List Int → List Int → Int → Int → Int → Int → Int → Int → Option (Bool × List Int)
 | 0, _, _, _, _, _, _, _, _ => none
 | k + 1, x0, x1, x2, x3, x9, x10, x15, x16 => if x16 < x15 then (if 0 ≤ x16 then (if x16 < (x1.length : Int) then (if 0 ≤ (wrap64 (x2 + x16)) then (if (wrap64 (x2 + x16)) < (x0.length : Int) then (nat_take.l0 k (x0.set ((wrap64 (x2 + x16)) : Int).toNat ((IntKind.u64.wrap ((IntKind.u64.wrap ((IntKind.u64.wrap (rd x0 (wrap64 (x2 + x16)))) - ((IntKind.u64.wrap (x9 + (IntKind.u64.wrap (x3 * (IntKind.u64.wrap (rd x1 x16)))))) % 4294967296))) - x10)) % 4294967296)) x1 x2 x3 ((IntKind.u64.wrap (x9 + (IntKind.u64.wrap (x3 * (IntKind.u64.wrap (rd x1 x16)))))) / 4294967296) ((IntKind.u64.wrap ((IntKind.u64.wrap ((IntKind.u64.wrap (rd x0 (wrap64 (x2 + x16)))) - ((IntKind.u64.wrap (x9 + (IntKind.u64.wrap (x3 * (IntKind.u64.wrap (rd x1 x16)))))) % 4294967296))) - x10)) / 9223372036854775808) x15 (wrap64 (x16 + 1))) else (none)) else (none)) else (none)) else (none)) else (if 0 ≤ (wrap64 (x2 + (x1.length : Int))) then (if (wrap64 (x2 + (x1.length : Int))) < (x0.length : Int) then (some ((((IntKind.u64.wrap ((IntKind.u64.wrap ((IntKind.u64.wrap (rd x0 (wrap64 (x2 + (x1.length : Int))))) - x9)) - x10)) / 9223372036854775808) != 0), (x0.set ((wrap64 (x2 + (x1.length : Int))) : Int).toNat ((IntKind.u64.wrap ((IntKind.u64.wrap ((IntKind.u64.wrap (rd x0 (wrap64 (x2 + (x1.length : Int))))) - x9)) - x10)) % 4294967296)))) else (none)) else (none))
def nat_take.f (k : Nat) (l0 : List Int) (l1 : List Int) (a2 : Int) (a3 : Int) : Option (Bool × List Int) := nat_take.l0 k l0 l1 a2 a3 0 0 (l1.length : Int) 0
theorem nat_take.mono_l : ∀ k, (∀ y0 y1 y2 y3 y4 y5 y6 y7, LeO (nat_take.l0 k y0 y1 y2 y3 y4 y5 y6 y7) (nat_take.l0 (k + 1) y0 y1 y2 y3 y4 y5 y6 y7))
 | 0 => fun _ _ _ _ _ _ _ _ r h => by simp [nat_take.l0] at h
 | k + 1 => by
  have ih0 := nat_take.mono_l k
  ·intro y0 y1 y2 y3 y4 y5 y6 y7
   unfold nat_take.l0
   repeat' first
   | (with_reducible exact ih0 _ _ _ _ _ _ _ _)
   | (with_reducible exact LeO.refl _)
   | (with_reducible exact LeO.none _)
   | (with_reducible refine LeO.ite ?_ ?_)
   | (with_reducible refine LeO.bind ?_ (fun _ => ?_))
   | exact ih0 _ _ _ _ _ _ _ _
   | exact LeO.none _
   | refine LeO.ite ?_ ?_
   | refine LeO.bind ?_ (fun _ => ?_)
theorem nat_take.mono : ∀ a0 a1 a2 a3 k, LeO (nat_take.f k a0 a1 a2 a3) (nat_take.f (k + 1) a0 a1 a2 a3) := by
 intro a0 a1 a2 a3 k
 have ih0 := nat_take.mono_l k
 unfold nat_take.f
 repeat' first
   | (with_reducible exact ih0 _ _ _ _ _ _ _ _)
   | (with_reducible exact LeO.refl _)
   | (with_reducible exact LeO.none _)
   | (with_reducible refine LeO.ite ?_ ?_)
   | (with_reducible refine LeO.bind ?_ (fun _ => ?_))
   | exact ih0 _ _ _ _ _ _ _ _
   | exact LeO.none _
   | refine LeO.ite ?_ ?_
   | refine LeO.bind ?_ (fun _ => ?_)
set_option maxHeartbeats 8000000 in
set_option maxRecDepth 100000 in
theorem nat_take.calls (k : Nat) (P0_ : Nat → Prop) (u9000_ : Value) (l0 : List Int) (A1 : Option Addr) (c1 : Nat) (l1 : List Int) (a2 : Int) (a3 : Int) (r1 : Bool) (r2 : List Int) (w0 w : World) (hB : Below w0.heap.size w0 w) (ho0 : Kd.R (Kd.int .u32) 47 w w0.heap.size P0_ u9000_ l0) (hr1 : ∀ W_, Kept w W_ (fun k_ => P0_ k_) → Kd.C (Kd.int .u32) W_ A1 l1.length l1) (hc1 : l1.length ≤ c1) (h : nat_take.f k l0 l1 a2 a3 = some (r1, r2)) :
  Calls Tryd.prog 73 #[u9000_, .slice A1 l1.length c1, .int .i64 a2, .int .u64 a3] w fun e w' => e = .returned (.bool r1) ∧ Kd.R (Kd.int .u32) 47 w' w0.heap.size (fun k_ => (P0_ k_ ∨ w.heap.size ≤ k_)) u9000_ r2 ∧ Below w0.heap.size w0 w' ∧ Kept w w' (fun k_ => P0_ k_) := by
 have HO0 := Aside0.mk (show Kd.R (Kd.int .u32) 47 w w0.heap.size (fun k_ => (P0_ k_ ∨ w.heap.size ≤ k_)) u9000_ l0 from Kd.R_mono ho0 (fun k_ hk => (.inl hk)))
 have HR1 := Aside0.mk hr1
 have HC1 := Aside0.mk hc1
 clear hr1 hc1
 have HK := Aside0.mk (Kept.refl w (fun k_ => P0_ k_))
 have HW0 := Aside0.mk hB.size
 have HB := Aside0.mk hB
 clear hB
 have H : (nat_take.l0 k l0 l1 a2 a3 0 0 (l1.length : Int) 0) = some (r1, r2) := h
 clear h
 have H' := Aside0.mk H
 clear H
 go_enter Tryd.func73, Tryd.ntmps73
 go_wp2
 go_loopg [9, 10, 16] k (fun kq v9 v10 v16 w' => ∃ (x0_1 : List Int) (x9_1 : Int) (x10_1 : Int) (x16_1 : Int), v9 = .int .u64 x9_1 ∧ v10 = .int .u64 x10_1 ∧ v16 = .int .i64 x16_1 ∧ Aside0 (nat_take.l0 kq x0_1 l1 a2 a3 x9_1 x10_1 (l1.length : Int) x16_1 = some (r1, r2)) ∧ Aside0 (kq ≤ k) ∧ Aside0 (Kd.R (Kd.int .u32) 47 w' w0.heap.size (fun k_ => (P0_ k_ ∨ w.heap.size ≤ k_)) u9000_ x0_1) ∧ Aside0 (Kept w w' (fun k_ => P0_ k_)) ∧ Aside0 (Below w0.heap.size w0 w'))
 case atStart => exact ⟨(l0), (0), (0), (0), (by first | rfl | (simp; done) | (simp [*]; done)), (by first | rfl | (simp; done) | (simp [*]; done)), (by first | rfl | (simp; done) | (simp [*]; done)), H', ⟨Nat.le_refl _⟩, ⟨by (with_reducible repeat (first | apply Kd.R_alloc | apply Kd.R_drewN | apply Kd.R_drew)); exact HO0.out⟩, ⟨by repeat (first | (with_reducible first | exact HK.out | apply Kept.alloc | apply Kept.drewN | apply Kept.drew) | exact HK.out)⟩, ⟨qB⟩⟩
 case round =>
  clear H'
  try clear c1
  try clear p2
  obtain ⟨x0_1, x9_1, x10_1, x16_1, rfl, rfl, rfl, HA, HK1, HO_0, HK, HB⟩ := hrel
  cases gk with
  | zero => exact absurd HA.out (by simp [nat_take.l0])
  | succ k1 =>
   have H := HA.out
   clear HA
   simp only [nat_take.l0] at H
   by_cases c5 : x16_1 < (l1.length : Int)
   ·rw [if_pos c5] at H
    have c5b0 : decide (x16_1 < (l1.length : Int)) = true := decide_eq_true c5
    clear c5
    by_cases c6 : 0 ≤ x16_1
    ·rw [if_pos c6] at H
     have c6b0 : decide (0 ≤ x16_1) = true := decide_eq_true c6
     clear c6
     by_cases c7 : x16_1 < (l1.length : Int)
     ·rw [if_pos c7] at H
      have c7b0 : decide (x16_1 < (l1.length : Int)) = true := decide_eq_true c7
      clear c7
      obtain ⟨ji8, hji8⟩ : ∃ j_ : Int, (wrap64 (a2 + x16_1)) = j_ := ⟨_, rfl⟩
      replace H : (if 0 ≤ (ji8) then (if (ji8) < (x0_1.length : Int) then (nat_take.l0 k1 (x0_1.set ((ji8) : Int).toNat ((IntKind.u64.wrap ((IntKind.u64.wrap ((IntKind.u64.wrap (rd x0_1 (ji8))) - ((IntKind.u64.wrap (x9_1 + (IntKind.u64.wrap (a3 * (IntKind.u64.wrap (rd l1 x16_1)))))) % 4294967296))) - x10_1)) % 4294967296)) l1 a2 a3 ((IntKind.u64.wrap (x9_1 + (IntKind.u64.wrap (a3 * (IntKind.u64.wrap (rd l1 x16_1)))))) / 4294967296) ((IntKind.u64.wrap ((IntKind.u64.wrap ((IntKind.u64.wrap (rd x0_1 (ji8))) - ((IntKind.u64.wrap (x9_1 + (IntKind.u64.wrap (a3 * (IntKind.u64.wrap (rd l1 x16_1)))))) % 4294967296))) - x10_1)) / 9223372036854775808) (l1.length : Int) (wrap64 (x16_1 + 1))) else (none)) else (none)) = some (r1, r2) := by first | (rw [hji8] at H; exact H) | (simp only [hji8] at H ⊢; exact H)
      have hji8w : (IntKind.i64.wrap (a2 + x16_1)) = ji8 := (i64_w _).trans hji8
      by_cases c9 : 0 ≤ (ji8)
      ·rw [if_pos c9] at H
       have c9b0 : decide (0 ≤ (ji8)) = true := decide_eq_true c9
       clear c9
       by_cases c10 : (ji8) < (x0_1.length : Int)
       ·rw [if_pos c10] at H
        have c10b0 : decide ((ji8) < (x0_1.length : Int)) = true := decide_eq_true c10
        clear c10
        obtain ⟨y149, hy149⟩ : ∃ y_ : List Int, y_ = (x0_1.set ((ji8) : Int).toNat ((IntKind.u64.wrap ((IntKind.u64.wrap ((IntKind.u64.wrap (rd x0_1 (ji8))) - ((IntKind.u64.wrap (x9_1 + (IntKind.u64.wrap (a3 * (IntKind.u64.wrap (rd l1 x16_1)))))) % 4294967296))) - x10_1)) % 4294967296)) := ⟨_, rfl⟩
        replace H : (nat_take.l0 k1 y149 l1 a2 a3 ((IntKind.u64.wrap (x9_1 + (IntKind.u64.wrap (a3 * (IntKind.u64.wrap (rd l1 x16_1)))))) / 4294967296) ((IntKind.u64.wrap ((IntKind.u64.wrap ((IntKind.u64.wrap (rd x0_1 (ji8))) - ((IntKind.u64.wrap (x9_1 + (IntKind.u64.wrap (a3 * (IntKind.u64.wrap (rd l1 x16_1)))))) % 4294967296))) - x10_1)) / 9223372036854775808) (l1.length : Int) (wrap64 (x16_1 + 1))) = some (r1, r2) := by first | (rw [hy149]; with_reducible exact H) | (have H2_ := (Option.bind_some _ _).symm.trans H; rw [hy149]; with_reducible exact H2_) | (have H2_ := (Option.bind_some _ _).symm.trans H; with_reducible exact H2_) | with_reducible exact H | (rw [hy149]; exact H) | exact H
        have Ny149 := Aside0.mk hy149
        clear hy149
        have H' := Aside0.mk H
        clear H
        have p147 : 0 ≤ (x16_1 : Int) := of_decide_eq_true qA
        have q147 : x16_1 < (l1.length : Int) := of_decide_eq_true qA
        obtain ⟨ad147, e147, hx147_0⟩ := Kd.at_int (Kd.C_kept_now HR1.out HK.out) x16_1 p147 q147
        cases e147
        replace p147 := eq_true p147
        replace q147 := eq_true q147
        obtain ⟨Ao12, co12, eo12⟩ := Kd.R_slice HO_0.out
        subst eo12
        have p148 : 0 ≤ ((ji8) : Int) := of_decide_eq_true qA
        have q148 : (ji8) < (x0_1.length : Int) := of_decide_eq_true qA
        obtain ⟨ad148, e148, hx148_0⟩ := Kd.at_int (Kd.R_reads' HO_0.out).2.2 (ji8) p148 q148
        cases e148
        replace p148 := eq_true p148
        replace q148 := eq_true q148
        have p11 : 0 ≤ ((ji8) : Int) := of_decide_eq_true qA
        have q11 : ((ji8) : Int) < ((x0_1.length : Int) : Int) := of_decide_eq_true qA
        obtain ⟨go11, co11, eo11, gb11, gl11, cl11, HG11⟩ := Kd.R_form HO_0.out (by omega)
        (first | cases eo11 | (injection eo11 with ea_ en_ ec_; (first | subst ea_ | (injection ea_ with ea_; subst ea_)); subst ec_; clear en_))
        have GB11 := Aside0.mk gb11
        have GG11 := Aside0.mk HG11
        clear gb11 gl11 HG11
        have HMgo11 := Aside0.mk (show (P0_ go11 ∨ w.heap.size ≤ go11) from (HO_0.out.1 _ rfl))
        (first | simp only [add_plain] at hx148_0 | skip)
        obtain ⟨hx11_0, hf11_0⟩ := Kd.R_celln 0 HO_0.out ((ji8) : Int) p11 q11
        replace p11 := eq_true p11
        replace q11 := eq_true q11
        have HP13 := Kd.R_putg HO_0.out ((ji8) : Int) ((IntKind.u64.wrap ((IntKind.u64.wrap ((IntKind.u64.wrap (rd x0_1 (ji8))) - ((IntKind.u64.wrap (x9_1 + (IntKind.u64.wrap (a3 * (IntKind.u64.wrap (rd l1 x16_1)))))) % 4294967296))) - x10_1)) % 4294967296)
        go_wp2_with (first | ((with_reducible refine gate_store (t := 47) (p := 47) rfl ?_); refine store_event (t := 47) (p := 47) (v := ?vo_w14) (w1 := (wr.setCell ⟨go11, ((ji8) : Int).toNat, none⟩ (.int .u32 ((IntKind.u64.wrap ((IntKind.u64.wrap ((IntKind.u64.wrap (rd x0_1 (ji8))) - ((IntKind.u64.wrap (x9_1 + (IntKind.u64.wrap (a3 * (IntKind.u64.wrap (rd l1 x16_1)))))) % 4294967296))) - x10_1)) % 4294967296)))) ?hg ?ho ?hn ?hr ?_; (case ho => rfl); (case hg => rfl); (case hn => rfl); (case hr => first | (go_simp; done) | (go_simp; rfl)); intro w14 hw; have hg : wr.grownBy w14 (some go11) := (by rw [hw]; exact HP13.2); have hp_ : Kd.R (Kd.int .u32) 47 w14 w0.heap.size (fun k_ => (P0_ k_ ∨ w.heap.size ≤ k_)) (.slice (some ⟨go11, 0, none⟩) x0_1.length co12) y149 := (by rw [hw, Ny149.out]; exact HP13.1); clear HP13; have n0_ := Aside0.mk (hp_); have n1_ := Aside0.mk ((by rw [hw]; exact below_set (HB.out) GB11.out : Below w0.heap.size w0 w14)); have n2_ := Aside0.mk (Kept.of_grown (S := (fun k_ => P0_ k_)) hg (by repeat (first | (with_reducible first | exact HK.out | apply Kept.alloc | apply Kept.drewN | apply Kept.drew) | exact HK.out)) (fun k_ e_ => (HO_0.out.1 k_ e_))); clear HO_0; clear HB; clear HK; have HO_0 := n0_; have HB := n1_; have HK := n2_; clear n0_ n1_ n2_; clear hg hw hp_))
        go_roundg k1
        case measure => have := HK1.out; omega
        case rel => exact ⟨(y149), ((IntKind.u64.wrap (x9_1 + (IntKind.u64.wrap (a3 * (IntKind.u64.wrap (rd l1 x16_1)))))) / 4294967296), ((IntKind.u64.wrap ((IntKind.u64.wrap ((IntKind.u64.wrap (rd x0_1 (ji8))) - ((IntKind.u64.wrap (x9_1 + (IntKind.u64.wrap (a3 * (IntKind.u64.wrap (rd l1 x16_1)))))) % 4294967296))) - x10_1)) / 9223372036854775808), (wrap64 (x16_1 + 1)), (by first | rfl | (simp; done) | (simp [*]; done)), (by first | rfl | (simp; done) | (simp only [← hji8] <;> (first | rfl | simp)) | (simp [*]; done)), (by first | rfl | (simp; done) | (simp [*]; done)), H', ⟨by have := HK1.out; omega⟩, ⟨by (with_reducible repeat (first | apply Kd.R_alloc | apply Kd.R_drewN | apply Kd.R_drew)); exact HO_0.out⟩, ⟨by repeat (first | (with_reducible first | exact HK.out | apply Kept.alloc | apply Kept.drewN | apply Kept.drew) | exact HK.out)⟩, ⟨qB⟩⟩
       ·rw [if_neg c10] at H
        exact absurd H (by simp)
      ·rw [if_neg c9] at H
       exact absurd H (by simp)
     ·rw [if_neg c7] at H
      exact absurd H (by simp)
    ·rw [if_neg c6] at H
     exact absurd H (by simp)
   ·rw [if_neg c5] at H
    have c5b0 : decide (x16_1 < (l1.length : Int)) = false := decide_eq_false c5
    clear c5
    obtain ⟨ji15, hji15⟩ : ∃ j_ : Int, (wrap64 (a2 + (l1.length : Int))) = j_ := ⟨_, rfl⟩
    replace H : (if 0 ≤ (ji15) then (if (ji15) < (x0_1.length : Int) then (some ((((IntKind.u64.wrap ((IntKind.u64.wrap ((IntKind.u64.wrap (rd x0_1 (ji15))) - x9_1)) - x10_1)) / 9223372036854775808) != 0), (x0_1.set ((ji15) : Int).toNat ((IntKind.u64.wrap ((IntKind.u64.wrap ((IntKind.u64.wrap (rd x0_1 (ji15))) - x9_1)) - x10_1)) % 4294967296)))) else (none)) else (none)) = some (r1, r2) := by first | (rw [hji15] at H; exact H) | (simp only [hji15] at H ⊢; exact H)
    have hji15w : (IntKind.i64.wrap (a2 + (l1.length : Int))) = ji15 := (i64_w _).trans hji15
    by_cases c16 : 0 ≤ (ji15)
    ·rw [if_pos c16] at H
     have c16b0 : decide (0 ≤ (ji15)) = true := decide_eq_true c16
     clear c16
     by_cases c17 : (ji15) < (x0_1.length : Int)
     ·rw [if_pos c17] at H
      have c17b0 : decide ((ji15) < (x0_1.length : Int)) = true := decide_eq_true c17
      clear c17
      obtain ⟨y151, hy151⟩ : ∃ y_ : List Int, y_ = (x0_1.set ((ji15) : Int).toNat ((IntKind.u64.wrap ((IntKind.u64.wrap ((IntKind.u64.wrap (rd x0_1 (ji15))) - x9_1)) - x10_1)) % 4294967296)) := ⟨_, rfl⟩
      replace H : (some ((((IntKind.u64.wrap ((IntKind.u64.wrap ((IntKind.u64.wrap (rd x0_1 (ji15))) - x9_1)) - x10_1)) / 9223372036854775808) != 0), y151)) = some (r1, r2) := by first | (rw [hy151]; with_reducible exact H) | (have H2_ := (Option.bind_some _ _).symm.trans H; rw [hy151]; with_reducible exact H2_) | (have H2_ := (Option.bind_some _ _).symm.trans H; with_reducible exact H2_) | with_reducible exact H | (rw [hy151]; exact H) | exact H
      have Ny151 := Aside0.mk hy151
      clear hy151
      simp only [Option.some.injEq, Prod.mk.injEq] at H
      obtain ⟨rfl, rfl⟩ := H
      obtain ⟨Ao19, co19, eo19⟩ := Kd.R_slice HO_0.out
      subst eo19
      have p150 : 0 ≤ ((ji15) : Int) := of_decide_eq_true qA
      have q150 : (ji15) < (x0_1.length : Int) := of_decide_eq_true qA
      obtain ⟨ad150, e150, hx150_0⟩ := Kd.at_int (Kd.R_reads' HO_0.out).2.2 (ji15) p150 q150
      cases e150
      replace p150 := eq_true p150
      replace q150 := eq_true q150
      have p18 : 0 ≤ ((ji15) : Int) := of_decide_eq_true qA
      have q18 : ((ji15) : Int) < ((x0_1.length : Int) : Int) := of_decide_eq_true qA
      obtain ⟨go18, co18, eo18, gb18, gl18, cl18, HG18⟩ := Kd.R_form HO_0.out (by omega)
      (first | cases eo18 | (injection eo18 with ea_ en_ ec_; (first | subst ea_ | (injection ea_ with ea_; subst ea_)); subst ec_; clear en_))
      have GB18 := Aside0.mk gb18
      have GG18 := Aside0.mk HG18
      clear gb18 gl18 HG18
      have HMgo18 := Aside0.mk (show (P0_ go18 ∨ w.heap.size ≤ go18) from (HO_0.out.1 _ rfl))
      (first | simp only [add_plain] at hx150_0 | skip)
      obtain ⟨hx18_0, hf18_0⟩ := Kd.R_celln 0 HO_0.out ((ji15) : Int) p18 q18
      replace p18 := eq_true p18
      replace q18 := eq_true q18
      have HP20 := Kd.R_putg HO_0.out ((ji15) : Int) ((IntKind.u64.wrap ((IntKind.u64.wrap ((IntKind.u64.wrap (rd x0_1 (ji15))) - x9_1)) - x10_1)) % 4294967296)
      go_wp2_with (first | ((with_reducible refine gate_store (t := 47) (p := 72) rfl ?_); refine store_event (t := 47) (p := 72) (v := ?vo_w21) (w1 := (wr.setCell ⟨go18, ((ji15) : Int).toNat, none⟩ (.int .u32 ((IntKind.u64.wrap ((IntKind.u64.wrap ((IntKind.u64.wrap (rd x0_1 (ji15))) - x9_1)) - x10_1)) % 4294967296)))) ?hg ?ho ?hn ?hr ?_; (case ho => rfl); (case hg => rfl); (case hn => rfl); (case hr => first | (go_simp; done) | (go_simp; rfl)); intro w21 hw; have hg : wr.grownBy w21 (some go18) := (by rw [hw]; exact HP20.2); have hp_ : Kd.R (Kd.int .u32) 47 w21 w0.heap.size (fun k_ => (P0_ k_ ∨ w.heap.size ≤ k_)) (.slice (some ⟨go18, 0, none⟩) x0_1.length co19) y151 := (by rw [hw, Ny151.out]; exact HP20.1); clear HP20; have n0_ := Aside0.mk (hp_); have n1_ := Aside0.mk ((by rw [hw]; exact below_set (HB.out) GB18.out : Below w0.heap.size w0 w21)); have n2_ := Aside0.mk (Kept.of_grown (S := (fun k_ => P0_ k_)) hg (by repeat (first | (with_reducible first | exact HK.out | apply Kept.alloc | apply Kept.drewN | apply Kept.drew) | exact HK.out)) (fun k_ e_ => (HO_0.out.1 k_ e_))); clear HO_0; clear HB; clear HK; have HO_0 := n0_; have HB := n1_; have HK := n2_; clear n0_ n1_ n2_; clear hg hw hp_))
      go_ret
      exact ⟨by first | rfl | (simp [errW_none, errW_some] <;> rfl) | (simp only [← hji15]; first | rfl | (simp [errW_none, errW_some] <;> rfl)) | (simp [*, errW_none, errW_some] <;> rfl), by (with_reducible repeat (first | apply Kd.R_alloc | apply Kd.R_drewN | apply Kd.R_drew)); exact HO_0.out, qB, by repeat (first | (with_reducible first | exact HK.out | apply Kept.alloc | apply Kept.drewN | apply Kept.drew) | exact HK.out)⟩
     ·rw [if_neg c17] at H
      exact absurd H (by simp)
    ·rw [if_neg c16] at H
     exact absurd H (by simp)

end Go.Proofs.YtamhiecepipnjaaDoor.GApproxNear
