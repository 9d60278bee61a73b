/- The law KeepThreshold over the printed functions. -/
import Derived.Test.YthjiiifnlhbffaaDoorK5KeepThreshold
namespace Go.Proofs.YthjiiifnlhbffaaDoor.GKeepThreshold
open Go.RowKit Go.Proofs.YthjiiifnlhbffaaDoorW.PrintWords Go.Proofs.YthjiiifnlhbffaaDoorW.PrintLast Go.Proofs.YthjiiifnlhbffaaDoorW.PrintMore Go.Proofs.YthjiiifnlhbffaaDoor.Pl
set_option linter.unusedVariables false
set_option linter.unusedSimpArgs false

theorem thr_skip (a : Int) (l : List S25) (x : S25) : Ev (fun k => samphirelaw13_KeepThreshold.j0 k a l true x.f0 x.f1 x.f2) true :=
  Ev.step (fun k => samphirelaw13_KeepThreshold.j0.eq_2 _ _ _ _ _ _ k) (ev_pos rfl (ev_bindr awake_f rfl))
theorem thr_loop {t : List S25} {z y : S25} {m e u v : List Int} (hz : WfI z) (hmz : May z) (hy : WfI y) (hmy : May y) (hr : Rk z m e) (hr' : Rk y u v) (hle : rkLe (toIt y) (toIt z)) (hl : t.length ≤ 1024) (ht : ∀ x ∈ t, WfI x ∧ May x ∧ rkLe (toIt x) (toIt z)) : ∀ (d i : Nat), i + d = t.length → Ev (fun k => samphirelaw13_KeepThreshold.l0 k true t (t.length : Int) (i : Int) m e u v) true
  | 0, i, h => by
    obtain ⟨s, hs, hev⟩ := rkcmp_f hy hmy hz hmz hr' hr hle
    refine Ev.step (fun k => samphirelaw13_KeepThreshold.l0.eq_2 _ _ _ _ _ _ _ _ k) ?_
    exact ev_neg (by omega) (ev_bind hev (ev_pos rfl (ev_pos rfl (ev_pos hs (ev_bindr awake_f rfl)))))
  | d + 1, i, h => by
    have ih := thr_loop hz hmz hy hmy hr hr' hle hl ht d (i + 1) (by omega)
    have e : wrap64 ((i : Int) + 1) = ((i + 1 : Nat) : Int) := by rw [w64 (by omega) (by omega)]; omega
    have hi : i < t.length := by omega
    obtain ⟨h1, h2, h3⟩ := ht _ (List.getElem_mem hi)
    obtain ⟨p, q, hrx, hevx⟩ := rank_f h1 h2
    obtain ⟨s, hs, hev⟩ := rkcmp_f h1 h2 hz hmz hrx hr h3
    refine Ev.step (fun k => samphirelaw13_KeepThreshold.l0.eq_2 _ _ _ _ _ _ _ _ k) ?_
    refine ev_pos (by omega) (ev_pos (by omega) (ev_pos (by omega) ?_))
    rw [rd_get hi, e]
    exact ev_bind hevx (ev_bind hev (ev_pos rfl (ev_neg (by omega) ih)))
theorem thr_go {a : Int} {l : List S25} {x : S25} (hw : ∀ y ∈ l, WfI y) (hx : WfI x) (hm : May x) (hk : IsKeep a l) : Ev (fun k => samphirelaw13_KeepThreshold.j0 k a l false x.f0 x.f1 x.f2) true := by
  obtain ⟨n, hn⟩ : ∃ n : Nat, a = n := ⟨a.toNat, by have := hk.1; omega⟩
  obtain ⟨r, hr, hadd⟩ := Add_f hn hw hx hm hk
  have hkr := hr.keep hn hk
  have h1 := hk.1
  have h2 := hk.2.1
  have h3 := hk.2.2.1
  refine Ev.step (fun k => samphirelaw13_KeepThreshold.j0.eq_2 _ _ _ _ _ _ k) (ev_neg (by decide) ?_)
  by_cases h : l.length = n + 1
  · obtain ⟨p, q, hrp, hthr⟩ := threshold_yes hn hw hk h
    obtain ⟨u, v, hru, hthu⟩ := threshold_yes hn hr.wf hkr (hr.full h)
    refine ev_bind hthr (ev_bind hadd (ev_bind hthu (ev_pos rfl (ev_bind (sample_f hn hw hk) ?_))))
    have hwz := hw _ (List.getElem_mem (show n < l.length by omega))
    have hmz := hk.2.2.2.may _ (List.getElem_mem (show n < l.length by omega))
    refine thr_loop hwz hmz (hr.wf _ (List.getElem_mem _)) (hr.good.may _ (List.getElem_mem _)) hrp hru (hr.rk h (hr.full h)) (by rw [List.length_take]; omega) (fun y hy => ?_) (l.take n).length 0 (by omega)
    have hyl := List.mem_of_mem_take hy
    refine ⟨hw y hyl, hk.2.2.2.may y hyl, ?_⟩
    have := rk_last hk.2.2.2.srt (n := n) (by rw [List.length_map]; exact h) (List.mem_map.2 ⟨y, hyl, rfl⟩)
    rwa [List.getElem_map] at this
  · have hthr := threshold_no hw hk (by omega)
    have hle : (l.length : Int) ≤ a := by omega
    rcases Nat.lt_or_ge n r.length with h4 | h4
    · obtain ⟨u, v, hru, hthu⟩ := threshold_yes hn hr.wf hkr (by have := hr.len; omega)
      exact ev_bind hthr (ev_bind hadd (ev_bind hthu (ev_neg (by decide) (ev_pos hle (ev_bindr awake_f rfl)))))
    · have hrle : (r.length : Int) ≤ a := by omega
      exact ev_bind hthr (ev_bind hadd (ev_bind (threshold_no hr.wf hkr hrle) (ev_neg (by decide) (ev_pos hle (ev_bindr awake_f rfl)))))
theorem law_ev {a : Int} {l : List S25} {x : S25} (hw : ∀ y ∈ l, WfI y) (hx : WfI x) : Ev (fun k => samphirelaw13_KeepThreshold.f k a l x.f0 x.f1 x.f2) true := by
  obtain ⟨b, hb⟩ := small_f l
  refine ev_bind hb ?_
  rcases b with _ | _
  · exact ev_neg (by decide) (thr_skip a l x)
  · refine ev_pos rfl (ev_bind (right_f2 hw) ?_)
    by_cases hk : IsKeep a l
    · refine ev_pos (decide_eq_true hk) ?_
      by_cases hm : May x
      · exact ev_bindc (check_yes hm) (thr_go hw hx hm hk)
      · obtain ⟨e, he, hne⟩ := check_no hm
        refine ev_bindc he ?_
        rw [bne_iff_ne.2 hne]
        exact thr_skip a l x
    · exact ev_neg (by rw [decide_eq_false hk]; decide) (thr_skip a l x)
theorem law_k {a : Int} {l : List S25} {x : S25} (hw : ∀ y ∈ l, WfI y) (hx : WfI x) : ∃ k, samphirelaw13_KeepThreshold.f k a l x.f0 x.f1 x.f2 = some true := (law_ev hw hx).rounds
end Go.Proofs.YthjiiifnlhbffaaDoor.GKeepThreshold
