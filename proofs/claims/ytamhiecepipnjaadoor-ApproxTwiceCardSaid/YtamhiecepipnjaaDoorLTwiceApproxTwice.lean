/- The law ApproxTwice over the printed functions. -/
import Derived.Test.YtamhiecepipnjaaDoorB5ApproxTwice
namespace Go.Proofs.YtamhiecepipnjaaDoor.GApproxTwice
open Go.RowKit Go.Proofs.YtamhiecepipnjaaDoorW.PrintWords Go.Proofs.YtamhiecepipnjaaDoorW.PrintLast Go.Proofs.YtamhiecepipnjaaDoorW.PrintMore Go.Proofs.YtamhiecepipnjaaDoor.Pl
set_option linter.unusedVariables false
set_option linter.unusedSimpArgs false

theorem ediv_le {a b : Int} (ha : 0 ≤ a) (hb : 0 < b) : a / b ≤ a := Int.ediv_le_self _ ha
/-- A fraction with itself. -/
theorem double_f {n d : List Int} (h : IsRat n d) (hn : n.length ≤ 8) (hd : d.length ≤ 8) : ∃ n' d', IsRat n' d' ∧ n'.length ≤ 30 ∧ d'.length ≤ 30 ∧ V n' * V d = 2 * V n * V d' ∧ Ev (fun k => rat_Add.f k n d n d) (n', d', 0) := by
  have hdp := h.dpos
  have hn0 := h.nneg
  obtain ⟨e, he, hen, hev, hee⟩ := mul_f h.2.1 h.2.1
  have hel : e.length ≤ 16 := by
    refine len_le he hen ?_
    rw [hev]
    have h1 := V_lt h.2.1.1
    have h2 : W d.length ≤ W 8 := W_mono hd
    rw [show (16 : Nat) = 8 + 8 from rfl, W_add]
    have h3 : V d * V d ≤ W 8 * V d := Int.mul_le_mul_of_nonneg_right (by omega) (by omega)
    have h4 : W 8 * V d < W 8 * W 8 := (Int.mul_lt_mul_left (W_pos 8)).2 (by omega)
    omega
  obtain ⟨x, y, hx, hxn, hxv, hy, hyn, hyv, hok, _⟩ := cross_f h h
  have hxb : V n * V d < W 16 := by
    have h1 := V_lt h.2.1.1
    have h2 : W d.length ≤ W 8 := W_mono hd
    have h1' := V_lt h.1.1
    have h2' : W n.length ≤ W 8 := W_mono hn
    rw [show (16 : Nat) = 8 + 8 from rfl, W_add]
    have h3 : V n * V d ≤ W 8 * V d := Int.mul_le_mul_of_nonneg_right (by omega) (by omega)
    have h4 : W 8 * V d < W 8 * W 8 := (Int.mul_lt_mul_left (W_pos 8)).2 (by omega)
    omega
  have hxl : x.length ≤ 16 := len_le hx hxn (by rw [hxv]; exact hxb)
  have hyl : y.length ≤ 16 := len_le hy hyn (by rw [hyv]; exact hxb)
  obtain ⟨s, hs, hsn, hsv, hse⟩ := add_f (a := x) (b := y) ⟨hx, hxn, by omega⟩ ⟨hy, hyn, by omega⟩
  have hsb : V s < W 17 := by
    rw [hsv, hxv, hyv, show (17 : Nat) = 16 + 1 from rfl, W_add, show W 1 = 4294967296 from by decide]
    have := W_pos 16
    omega
  have hsl : s.length ≤ 17 := len_le hs hsn hsb
  have e0 : e ≠ [] := ne_nil_of_pos (by rw [hev]; exact Int.mul_pos hdp hdp)
  obtain ⟨n', d', hr, h1, h2, hred⟩ := reduce_f (n := s) (d := e) ⟨hs, hsn, by omega⟩ ⟨he, hen, by omega⟩ e0
  have hep : 0 < V e := by rw [hev]; exact Int.mul_pos hdp hdp
  have hs0 : 0 ≤ V s := V_nonneg hs
  have hg : 0 < gcdV (V s) (V e) := gcdV_pos hep
  refine ⟨n', d', hr, ?_, ?_, ?_, ?_⟩
  · refine Nat.le_trans (len_lt_of_V_lt hr.1.1 hs hr.1.2.1 ?_) (by omega : s.length ≤ 30)
    rw [h1]; exact ediv_le hs0 hg
  · refine Nat.le_trans (len_lt_of_V_lt hr.2.1.1 he hr.2.1.2.1 ?_) (by omega : e.length ≤ 30)
    rw [h2]; exact ediv_le (by omega) hg
  · have h3 := cross_of_div (a := V s) (b := V e) hs0 hep
    rw [← h1, ← h2, hsv, hxv, hyv, hev] at h3
    refine Int.eq_of_mul_eq_mul_right (a := V d) (by omega) ?_
    rw [show V n' * V d * V d = V n' * (V d * V d) from Int.mul_assoc _ _ _, h3]; grind
  · rw [if_neg (by omega)] at hse hee
    refine ev_bind (g := fun k => rat_joined__nat_Add.f k n d n d) (x := (n', d', 0)) ?_ (ev_now rfl)
    exact ev_bind (both_f h h) (ev_pos rfl (ev_bind hee (ev_pos rfl (ev_bind (hok (by omega) (by omega)) (ev_pos rfl (ev_bind hse (ev_pos rfl (ev_bindr hred rfl))))))))
theorem twice_j0_true (n d : List Int) : Ev (fun k => samphirelaw04_ApproxTwice.j0 k true n d) true := by
  refine Ev.step (fun k => samphirelaw04_ApproxTwice.j0.eq_2 _ _ _ k) ?_
  exact ev_pos rfl (ev_bindr awake_f rfl)
theorem twice_j0_false {n d : List Int} (h : IsRat n d) (hn : n.length ≤ 8) (hd : d.length ≤ 8) : Ev (fun k => samphirelaw04_ApproxTwice.j0 k false n d) true := by
  obtain ⟨n', d', hr, hn', hd', hv, hadd⟩ := double_f h hn hd
  obtain ⟨b, hb, hbe⟩ := Float_f h (by omega) (by omega)
  obtain ⟨c, hc, hce⟩ := Float_f hr hn' hd'
  refine Ev.step (fun k => samphirelaw04_ApproxTwice.j0.eq_2 _ _ _ k) ?_
  refine ev_neg (by decide) (ev_bind hadd (ev_bind hbe (ev_bind hce (ev_pos rfl (ev_pos rfl (ev_pos rfl ?_))))))
  rcases hb.twice hc h.dpos hr.dpos hv with ⟨h1, h2⟩ | ⟨h1, h2, h3, h4⟩
  · subst h1 h2
    refine ev_pos (by rw [mul_two_zero]; rfl) (ev_pos ?_ (ev_bindr awake_f rfl))
    rw [mul_two_zero]
    show (FloatKind.f64.format.order 0 0 == some Ordering.eq) = true
    rw [order_eq (by decide)]; rfl
  · have hm := mul_two_norm h1 (by omega)
    refine ev_pos (by rw [hm]; rfl) (ev_pos ?_ (ev_bindr awake_f rfl))
    rw [hm, h4]
    show (FloatKind.f64.format.order (b + 4503599627370496) (b + 4503599627370496) == some Ordering.eq) = true
    rw [order_eq (by omega)]; rfl
theorem law_ev {n d : List Int} (hn : Wf n) (hd : Wf d) : Ev (fun k => samphirelaw04_ApproxTwice.f k n d) true := by
  by_cases h1 : (n.length : Int) > 8
  · exact ev_pos h1 (twice_j0_true n d)
  · refine ev_neg h1 ?_
    by_cases h2 : (d.length : Int) > 8
    · exact ev_pos h2 (twice_j0_true n d)
    · refine ev_neg h2 (ev_bind (ratRight_f hn hd) ?_)
      by_cases h3 : IsRat n d
      · simp only [h3, decide_true, Bool.not_true]
        exact twice_j0_false h3 (by omega) (by omega)
      · simp only [h3, decide_false, Bool.not_false]
        exact twice_j0_true n d
theorem law_k {n d : List Int} (hn : Wf n) (hd : Wf d) : ∃ k, samphirelaw04_ApproxTwice.f k n d = some true := (law_ev hn hd).rounds
end Go.Proofs.YtamhiecepipnjaaDoor.GApproxTwice
