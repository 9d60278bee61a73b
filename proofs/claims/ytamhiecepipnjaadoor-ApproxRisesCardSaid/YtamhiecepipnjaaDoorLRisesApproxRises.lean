/- The law ApproxRises over the printed functions. -/
import Derived.Test.YtamhiecepipnjaaDoorB5ApproxRises
namespace Go.Proofs.YtamhiecepipnjaaDoor.GApproxRises
open Go.RowKit Go.Proofs.YtamhiecepipnjaaDoorW.PrintWords Go.Proofs.YtamhiecepipnjaaDoorW.PrintLast Go.Proofs.YtamhiecepipnjaaDoorW.PrintMore Go.Proofs.YtamhiecepipnjaaDoor.Pl
set_option linter.unusedVariables false
set_option linter.unusedSimpArgs false

theorem signbit_f {b : Nat} (h : b < 9223372036854775808) : math_Signbit.f b = some false := by
  unfold math_Signbit.f
  rw [w64 (by omega) (by omega), decide_eq_false (by omega)]
theorem rises_j0_true (n d m e : List Int) : Ev (fun k => samphirelaw04_ApproxRises.j0 k true n d m e) true := by
  refine Ev.step (fun k => samphirelaw04_ApproxRises.j0.eq_2 _ _ _ _ _ k) ?_
  exact ev_pos rfl (ev_bindr awake_f rfl)
theorem ge_true {a b : Nat} (ha : a < 9218868437227405312) (h : b ≤ a) : (FloatKind.f64.format.order a b == some Ordering.gt || FloatKind.f64.format.order a b == some Ordering.eq) = true := by
  rcases Nat.lt_or_ge b a with h1 | h1
  · rw [order_gt ha h1]; rfl
  · rw [show b = a from by omega, order_eq ha]; rfl
theorem le_true {a b : Nat} (hb : b < 9218868437227405312) (h : a ≤ b) : (FloatKind.f64.format.order a b == some Ordering.lt || FloatKind.f64.format.order a b == some Ordering.eq) = true := by
  rcases Nat.lt_or_ge a b with h1 | h1
  · rw [order_lt hb h1]; rfl
  · rw [show b = a from by omega, order_eq (by omega)]; rfl
theorem rises_j0_false {n d m e : List Int} (h : IsRat n d) (k : IsRat m e) (hn : n.length ≤ 30) (hd : d.length ≤ 30) (hm : m.length ≤ 30) (he : e.length ≤ 30) : Ev (fun k => samphirelaw04_ApproxRises.j0 k false n d m e) true := by
  obtain ⟨b, hb, hbe⟩ := Float_f h hn hd
  obtain ⟨c, hc, hce⟩ := Float_f k hm he
  have hcmp := ratCmp_small h k (by omega) (by omega)
  have b0 : b < 9218868437227405312 := by rcases hb.bound with h1 | h1 <;> omega
  have c0 : c < 9218868437227405312 := by rcases hc.bound with h1 | h1 <;> omega
  have sb := signbit_f (b := b) (by omega)
  have g0 := ge_true b0 (Nat.zero_le b)
  refine Ev.step (fun k => samphirelaw04_ApproxRises.j0.eq_2 _ _ _ _ _ k) ?_
  refine ev_neg (by decide) (ev_bind hcmp (ev_bind hbe (ev_bind hce (ev_pos rfl (ev_pos rfl (ev_pos rfl ?_))))))
  rcases Int.lt_trichotomy (V n * V e) (V m * V d) with hlt | heq | hgt
  · have hle := hb.mono hc h.dpos k.dpos (Int.le_of_lt hlt)
    rw [sgn_lt hlt]
    exact ev_neg (by decide) (ev_pos (le_true c0 hle) (ev_pos (by decide) (ev_pos g0 (ev_bindc sb (ev_neg (by decide) (ev_bindr awake_f rfl))))))
  · have hle := hb.mono hc h.dpos k.dpos (Int.le_of_eq heq)
    have hge := hc.mono hb k.dpos h.dpos (Int.le_of_eq heq.symm)
    rw [heq, sgn_eq]
    exact ev_neg (by decide) (ev_pos (le_true c0 hle) (ev_neg (by decide) (ev_pos (ge_true b0 hge) (ev_pos g0 (ev_bindc sb (ev_neg (by decide) (ev_bindr awake_f rfl)))))))
  · have hge := hc.mono hb k.dpos h.dpos (Int.le_of_lt hgt)
    rw [sgn_gt hgt]
    exact ev_pos (by decide) (ev_neg (by decide) (ev_pos (ge_true b0 hge) (ev_pos g0 (ev_bindc sb (ev_neg (by decide) (ev_bindr awake_f rfl))))))
theorem law_ev {n d m e : List Int} (hn : Wf n) (hd : Wf d) (hm : Wf m) (he : Wf e) : Ev (fun k => samphirelaw04_ApproxRises.f k n d m e) true := by
  by_cases h1 : (n.length : Int) > 30
  · exact ev_pos h1 (rises_j0_true n d m e)
  refine ev_neg h1 ?_
  by_cases h2 : (d.length : Int) > 30
  · exact ev_pos h2 (rises_j0_true n d m e)
  refine ev_neg h2 ?_
  by_cases h3 : (m.length : Int) > 30
  · exact ev_pos h3 (rises_j0_true n d m e)
  refine ev_neg h3 ?_
  by_cases h4 : (e.length : Int) > 30
  · exact ev_pos h4 (rises_j0_true n d m e)
  refine ev_neg h4 (ev_bind (ratRight_f hn hd) ?_)
  by_cases h5 : IsRat n d
  · refine ev_pos (by simp [h5]) (ev_bind (ratRight_f hm he) ?_)
    by_cases h6 : IsRat m e
    · simp only [h6, decide_true, Bool.not_true]
      exact rises_j0_false h5 h6 (by omega) (by omega) (by omega) (by omega)
    · simp only [h6, decide_false, Bool.not_false]
      exact rises_j0_true n d m e
  · exact ev_neg (by simp [h5]) (rises_j0_true n d m e)
theorem law_k {n d m e : List Int} (hn : Wf n) (hd : Wf d) (hm : Wf m) (he : Wf e) : ∃ k, samphirelaw04_ApproxRises.f k n d m e = some true := (law_ev hn hd hm he).rounds
end Go.Proofs.YtamhiecepipnjaaDoor.GApproxRises
