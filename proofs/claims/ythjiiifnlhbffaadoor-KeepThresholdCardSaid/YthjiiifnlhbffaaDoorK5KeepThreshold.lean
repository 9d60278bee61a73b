/- Ranks, thresholds, samples. -/
import Derived.Test.YthjiiifnlhbffaaDoorK4KeepThreshold
namespace Go.Proofs.YthjiiifnlhbffaaDoor.GKeepThreshold
open Go.RowKit Go.Proofs.YthjiiifnlhbffaaDoorW.PrintWords Go.Proofs.YthjiiifnlhbffaaDoorW.PrintLast Go.Proofs.YthjiiifnlhbffaaDoorW.PrintMore Go.Proofs.YthjiiifnlhbffaaDoor.Pl
set_option linter.unusedVariables false
set_option linter.unusedSimpArgs false

theorem make_le {n d : List Int} (hn : IsNat n) (hd : IsNat d) (hd0 : d ≠ []) :
    ∃ n' d', IsRat n' d' ∧ V n' * V d = V n * V d' ∧ n'.length ≤ n.length ∧ d'.length ≤ d.length ∧ Ev (fun k => rat_Make.f k n d) (n', d', 0) := by
  obtain ⟨n', d', hr, h1, h2, hev⟩ := reduce_f hn hd hd0
  have hp := hd.2.1.pos hd.1 hd0
  have hg : 0 < gcdV (V n) (V d) := gcdV_pos hp
  refine ⟨n', d', hr, ?_, ?_, ?_, ?_⟩
  · rw [h1, h2]; exact cross_of_div (V_nonneg hn.1) hp
  · exact len_lt_of_V_lt hr.1.1 hn.1 hr.1.2.1 (by rw [h1]; exact Int.ediv_le_self _ (V_nonneg hn.1))
  · exact len_lt_of_V_lt hr.2.1.1 hd.1 hr.2.1.2.1 (by rw [h2]; exact Int.ediv_le_self _ (by omega))
  · refine ev_bindc (right_nat hn) (ev_pos rfl (ev_bindc (right_nat hd) ?_))
    first | (refine Ev.step (fun k => rat_Make.j0.eq_2 _ _ _ k) ?_; refine ev_neg (by simp) ?_) | refine ev_pos rfl ?_
    refine ev_neg ?_ (ev_bindr hev rfl)
    have := List.length_pos_iff.2 hd0
    omega
/-- An item's rank as a fraction. -/
structure Rk (x : S25) (n d : List Int) : Prop where
  rat : IsRat n d
  ln : n.length ≤ 2
  ld : d.length ≤ 2
  v : V n * x.f2 = x.f1 * V d
theorem w_pos {x : S25} (hx : WfI x) (hm : May x) : 0 < x.f2 := by
  have h1 := hm.2
  have h2 := hx.w0
  omega
theorem rank_f {x : S25} (hx : WfI x) (hm : May x) : ∃ n d, Rk x n d ∧ Ev (fun k => rank_Rank.f k x.f0 x.f1 x.f2) (n, d, 0) := by
  obtain ⟨a, hae, han, hav, hal⟩ := of_f x.f1 hx.u0 hx.u1
  obtain ⟨b, hbe, hbn, hbv, hbl⟩ := of_f x.f2 hx.w0 hx.w1
  have hb0 : b ≠ [] := ne_nil_of_pos (by rw [hbv]; exact w_pos hx hm)
  obtain ⟨n, d, hr, hv, h1, h2, hev⟩ := make_le han hbn hb0
  rw [hav, hbv] at hv
  exact ⟨n, d, ⟨hr, by omega, by omega, hv⟩, ev_bindc (check_yes hm) (ev_pos rfl (ev_bind hae (ev_bind hbe (ev_bindr hev rfl))))⟩
theorem rank_le {u w n d u' w' n' d' : Int} (hw : 0 < w) (hw' : 0 < w') (hd : 0 < d) (hd' : 0 < d') (h : n * w = u * d) (h' : n' * w' = u' * d') (hle : u * w' ≤ u' * w) : n * d' ≤ n' * d := by
  have h1 := Int.mul_le_mul_of_nonneg_right hle (Int.le_of_lt (Int.mul_pos hd hd'))
  have e1 : u * w' * (d * d') = n * d' * (w * w') := by
    have : u * w' * (d * d') = (u * d) * (w' * d') := by grind
    rw [this, ← h]; grind
  have e2 : u' * w * (d * d') = n' * d * (w * w') := by
    have : u' * w * (d * d') = (u' * d') * (w * d) := by grind
    rw [this, ← h']; grind
  rw [e1, e2] at h1
  exact (Int.mul_le_mul_right (Int.mul_pos hw hw')).1 h1
theorem rkcmp_f {x y : S25} {n d m e : List Int} (hx : WfI x) (hmx : May x) (hy : WfI y) (hmy : May y) (h : Rk x n d) (h' : Rk y m e) (hle : rkLe (toIt x) (toIt y)) : ∃ s : Int, s ≤ 0 ∧ Ev (fun k => rat_Cmp.f k n d m e) (s, 0) := by
  have hc := ratCmp_small h.rat h'.rat (by have := h.ln; have := h'.ld; omega) (by have := h'.ln; have := h.ld; omega)
  refine ⟨_, ?_, hc⟩
  have := rank_le (w_pos hx hmx) (w_pos hy hmy) h.rat.dpos h'.rat.dpos h.v h'.v hle
  unfold sgn
  split
  · decide
  · rw [if_neg (by omega)]; decide
theorem threshold_no {a : Int} {l : List S25} (hw : ∀ x ∈ l, WfI x) (hk : IsKeep a l) (h : (l.length : Int) ≤ a) : Ev (fun k => keep_Threshold.f k a l) ([], [], false) :=
  ev_bind (right_f2 hw) (ev_pos (decide_eq_true hk) (ev_pos h (ev_now rfl)))
theorem threshold_yes {a : Int} {l : List S25} {n : Nat} (ha : a = n) (hw : ∀ x ∈ l, WfI x) (hk : IsKeep a l) (h : l.length = n + 1) : ∃ p q, Rk (l[n]'(by omega)) p q ∧ Ev (fun k => keep_Threshold.f k a l) (p, q, true) := by
  obtain ⟨p, q, hr, hev⟩ := rank_f (hw _ (List.getElem_mem (show n < l.length by omega))) (hk.2.2.2.may _ (List.getElem_mem _))
  subst ha
  refine ⟨p, q, hr, ev_bind (right_f2 hw) (ev_pos (decide_eq_true hk) (ev_neg (by omega) (ev_pos (by omega) (ev_pos (by omega) ?_))))⟩
  rw [rd_get (show n < l.length by omega)]
  exact ev_bindr hev rfl
theorem sample_f {a : Int} {l : List S25} {n : Nat} (ha : a = n) (hw : ∀ x ∈ l, WfI x) (hk : IsKeep a l) : Ev (fun k => keep_Sample.f k a l) (l.take n) := by
  have h1 := hk.2.1
  have h2 := hk.2.2.1
  have hmn : mn (l.length : Int) a = ((min l.length n : Nat) : Int) := by unfold mn; split <;> omega
  refine ev_bind (right_f2 hw) (ev_pos (decide_eq_true hk) ?_)
  rw [hmn]
  refine ev_pos (by omega) (ev_pos (by omega) (ev_bindc (clone_fi ?_) (ev_now ?_)))
  · rw [List.length_take]; omega
  · rw [Int.toNat_natCast]
    rcases Nat.le_total l.length n with h | h
    · rw [Nat.min_eq_left h, List.take_length, List.take_of_length_le h]
    · rw [Nat.min_eq_right h]
theorem Add_f {l : List S25} {x : S25} {a : Int} {n : Nat} (ha : a = n) (hw : ∀ y ∈ l, WfI y) (hx : WfI x) (hm : May x) (hk : IsKeep a l) : ∃ r, Added n l r ∧ Ev (fun k => keep_Add.f k a l x.f0 x.f1 x.f2) (r, 0) := by
  obtain ⟨r, hr, hev⟩ := add_f2 ha hw hx hm hk
  exact ⟨r, hr, ev_bind (right_f2 hw) (ev_pos (decide_eq_true hk) (ev_bindc (check_yes hm) (ev_pos rfl (ev_bindr hev rfl))))⟩
theorem Added.keep {n : Nat} {a : Int} {l r : List S25} (ha : a = n) (hk : IsKeep a l) (h : Added n l r) : IsKeep a r := ⟨hk.1, hk.2.1, by have := h.len; omega, h.good⟩
theorem small_l0 (l : List S25) : ∀ (d i : Nat), i + d = l.length → l.length ≤ 60 → ∃ b, Ev (fun k => samphireref10_Small.l0 k l (i : Int)) b
  | 0, i, h, h2 => ⟨true, Ev.step (fun k => samphireref10_Small.l0.eq_2 _ _ k) (ev_neg (by omega) (ev_now rfl))⟩
  | d + 1, i, h, h2 => by
    obtain ⟨b, hb⟩ := small_l0 l d (i + 1) (by omega) h2
    have e : wrap64 ((i : Int) + 1) = ((i + 1 : Nat) : Int) := by rw [w64 (by omega) (by omega)]; omega
    by_cases hs : (((rd_T25 l (i : Int)).f0).size : Int) > 100
    · exact ⟨false, Ev.step (fun k => samphireref10_Small.l0.eq_2 _ _ k) (ev_pos (by omega) (ev_pos (by omega) (ev_pos hs (ev_now rfl))))⟩
    · exact ⟨b, Ev.step (fun k => samphireref10_Small.l0.eq_2 _ _ k) (ev_pos (by omega) (ev_pos (by omega) (ev_neg hs (by rw [e]; exact hb))))⟩
theorem small_f (l : List S25) : ∃ b, Ev (fun k => samphireref10_Small.f k l) b := by
  by_cases h : (l.length : Int) > 60
  · exact ⟨false, ev_pos h (ev_now rfl)⟩
  · obtain ⟨b, hb⟩ := small_l0 l l.length 0 (by omega) (by omega)
    exact ⟨b, ev_neg h hb⟩
theorem awake_f : Ev (fun k => samphirelaw13_awake.f k) true := Ev.of samphirelaw13_awake.mono (k := 200) (by decide +kernel)
end Go.Proofs.YthjiiifnlhbffaaDoor.GKeepThreshold
