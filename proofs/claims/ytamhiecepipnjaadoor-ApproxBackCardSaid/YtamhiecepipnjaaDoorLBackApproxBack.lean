/- The law ApproxBack over the printed functions. -/
import Derived.Test.YtamhiecepipnjaaDoorC5ApproxBack
namespace Go.Proofs.YtamhiecepipnjaaDoor.GApproxBack
open Go.RowKit Go.Proofs.YtamhiecepipnjaaDoorW.PrintWords Go.Proofs.YtamhiecepipnjaaDoorW.PrintLast Go.Proofs.YtamhiecepipnjaaDoorW.PrintMore Go.Proofs.YtamhiecepipnjaaDoor.Pl
set_option linter.unusedVariables false
set_option linter.unusedSimpArgs false

theorem abs_any {b : Nat} (h : b < 18446744073709551616) : math_Abs.f b = some (b % 9223372036854775808) := by
  unfold math_Abs.f
  have e := u64_andNot_nat b 9223372036854775808 (by omega) (by omega)
  rw [show ((9223372036854775808 : Nat) : Int) = 9223372036854775808 from rfl] at e
  rw [e, Int.toNat_natCast, show 18446744073709551615 - 9223372036854775808 = 2 ^ 63 - 1 from by decide, Nat.and_two_pow_sub_one_eq_mod]
theorem isInf_any {b : Nat} (h : b < 18446744073709551616) (h1 : b % 9223372036854775808 < 9218868437227405312) : math_IsInf.f b 0 = some false := by
  unfold math_IsInf.f
  rw [if_pos rfl, abs_any h]
  simp only [Option.bind_some]
  generalize b % 9223372036854775808 = c at *
  rcases Nat.lt_or_ge c 9218868437227405311 with h1 | h1
  · rw [order_lt (by decide) h1]; rfl
  · rw [show c = 9218868437227405311 from by omega, order_eq (by decide)]; rfl
theorem exact_no {a : Nat} (h : math_IsNaN.f a = some true ∨ math_IsNaN.f a = some false ∧ (math_IsInf.f a 0 = some true ∨ math_IsInf.f a 0 = some false ∧ FloatKind.f64.format.order a 0 = some .lt)) : Ev (fun k => approx_Exact.f k a) ([], [], 1) := by
  have j : ∀ {c : Bool}, c = true → Ev (fun k => approx_Exact.j0 k a c) ([], [], 1) := fun hc => Ev.step (fun k => approx_Exact.j0.eq_2 _ _ k) (ev_pos hc (ev_now rfl))
  rcases h with h | ⟨h, h1 | ⟨h1, h2⟩⟩
  · exact ev_bindc h (ev_pos rfl (j rfl))
  · exact ev_bindc h (ev_neg (by decide) (ev_bindc h1 (ev_pos rfl (j rfl))))
  · exact ev_bindc h (ev_neg (by decide) (ev_bindc h1 (ev_neg (by decide) (j (by rw [h2]; rfl)))))
theorem one_ne_zero_ : ¬ ((([] : List Int), ([] : List Int), (1 : Int)).2.2 = 0) := by decide
/-- Refused, and neither 0 nor above. -/
theorem law_low {a : Nat} (he : Ev (fun k => approx_Exact.f k a) ([], [], 1)) (ho : FloatKind.f64.format.order a 0 = none ∨ FloatKind.f64.format.order a 0 = some .lt) : Ev (fun k => samphirelaw04_ApproxBack.f k a) true := by
  refine ev_bind he (ev_neg one_ne_zero_ (ev_neg ?_ (ev_bindr awake_f rfl)))
  rcases ho with h | h <;> rw [h] <;> decide
theorem law_inf : Ev (fun k => samphirelaw04_ApproxBack.f k 9218868437227405312) true := by
  refine ev_bind (exact_no (.inr ⟨by decide +kernel, .inl (by decide +kernel)⟩)) (ev_neg one_ne_zero_ (ev_pos (by decide +kernel) (ev_neg (by decide +kernel) (ev_bindr awake_f rfl))))
theorem error_f {n d : List Int} {b : Nat} (h : IsRat n d) (hl : n.length + d.length ≤ 64) (hF : Ev (fun k => approx_Float.f k n d) (b, 0)) (hE : Ev (fun k => approx_Exact.f k b) (n, d, 0)) : Ev (fun k => approx_Error.f k n d) ([], [1], 0) := by
  have hc := ratCmp_small h h hl hl
  rw [show sgn (V n * V d) (V n * V d) = 0 from sgn_eq _] at hc
  obtain ⟨r, hr, hrn, hrv⟩ := whole_f 0 (by decide) (by decide)
  have hr0 : r = [] := V_inj_nrm hrn.1 Wf.nil hrn.2.1 (by intro x hx; simp at hx) (by rw [hrv]; rfl)
  subst hr0
  exact ev_bind hF (ev_pos rfl (ev_bind hE (ev_pos rfl (ev_bind hc (ev_pos rfl (ev_pos rfl (ev_bindr hr rfl)))))))
theorem law_ok {a b : Nat} {n d : List Int} (h : IsRat n d) (hl : n.length + d.length ≤ 64) (hb : b < 9218868437227405312) (hA : Ev (fun k => approx_Exact.f k a) (n, d, 0)) (hF : Ev (fun k => approx_Float.f k n d) (b, 0)) (hE : Ev (fun k => approx_Exact.f k b) (n, d, 0))
    (ho : (FloatKind.f64.format.order b a == some Ordering.eq) = true) : Ev (fun k => samphirelaw04_ApproxBack.f k a) true := by
  have hs : math_Signbit.f b = some false := by
    unfold math_Signbit.f
    rw [w64 (by omega) (by omega), decide_eq_false (by omega)]
  exact ev_bind hA (ev_pos rfl (ev_bind hF (ev_bind (error_f h hl hF hE) (ev_pos rfl (ev_pos ho (ev_bindc hs (ev_neg (by decide) (ev_pos rfl (ev_pos rfl (ev_bindr awake_f rfl))))))))))
theorem isRat_zero : IsRat [] [1] := ⟨⟨Wf.nil, by intro x hx; simp at hx, by simp⟩, isNat_one, by simp, by decide⟩
theorem law_zero {a : Nat} (h : a = 0 ∨ a = 9223372036854775808) : Ev (fun k => samphirelaw04_ApproxBack.f k a) true := by
  have ex : ∀ {a : Nat}, a = 0 ∨ a = 9223372036854775808 → Ev (fun k => approx_Exact.f k a) ([], [1], 0) := by
    intro a h
    obtain ⟨r, hr, hrn, hrv⟩ := whole_f 0 (by decide) (by decide)
    have hr0 : r = [] := V_inj_nrm hrn.1 Wf.nil hrn.2.1 (by intro x hx; simp at hx) (by rw [hrv]; rfl)
    subst hr0
    have h1 : math_IsNaN.f a = some false := by rcases h with rfl | rfl <;> decide +kernel
    have h2 : math_IsInf.f a 0 = some false := by rcases h with rfl | rfl <;> decide +kernel
    have h3 : FloatKind.f64.format.order a 0 = some .eq := by rcases h with rfl | rfl <;> decide +kernel
    refine ev_bindc h1 (ev_neg (by decide) (ev_bindc h2 (ev_neg (by decide) ?_)))
    refine Ev.step (fun k => approx_Exact.j0.eq_2 _ _ k) (ev_neg (by rw [h3]; decide) (ev_pos (by rw [h3]; rfl) (ev_bindr hr rfl)))
  obtain ⟨b, hb, hF⟩ := Float_f isRat_zero (by simp) (by simp)
  have hb0 : b = 0 := by
    rcases hb with ⟨_, h⟩ | ⟨h, _⟩
    · exact h
    · simp [V] at h
  subst hb0
  refine law_ok isRat_zero (by simp) (by decide) (ex h) hF (ex (.inl rfl)) ?_
  rcases h with rfl | rfl <;> decide +kernel
theorem three {a s M c I f : Nat} (ha : a = s * M + c) (hc : c = I + f) : a = s * M + I + f := by rw [ha, hc, Nat.add_assoc]
theorem law_ev {a : Nat} (h : a < 18446744073709551616) : Ev (fun k => samphirelaw04_ApproxBack.f k a) true := by
  obtain ⟨s, hs⟩ : ∃ s, s = a / 9223372036854775808 := ⟨_, rfl⟩
  obtain ⟨c, hc⟩ : ∃ c, c = a % 9223372036854775808 := ⟨_, rfl⟩
  have ha : a = s * 9223372036854775808 + c := by omega
  have hs1 : s = 0 ∨ s = 1 := by omega
  have hc1 : c < 9223372036854775808 := by omega
  rcases Nat.lt_trichotomy c 9218868437227405312 with h1 | h1 | h1
  · rcases Nat.eq_zero_or_pos c with h2 | h2
    · exact law_zero (by omega)
    · rcases hs1 with h3 | h3
      · have ea : a = c := by omega
        subst ea
        obtain ⟨n, d, hr, hl, hv, hE⟩ := exact_f h2 h1
        exact law_ok hr (by omega) h1 hE (Float_exact hr h2 h1 hv) hE (by rw [order_eq h1]; rfl)
      · have ea : a = 9223372036854775808 + c := by omega
        have hn : math_IsNaN.f a = some false := by
          unfold math_IsNaN.f
          rw [ea, order_neg_self h1]; rfl
        have hi : math_IsInf.f a 0 = some false := isInf_any h (by omega)
        have ho : FloatKind.f64.format.order a 0 = some .lt := by rw [ea]; exact order_neg h2 h1
        exact law_low (exact_no (.inr ⟨hn, .inr ⟨hi, ho⟩⟩)) (.inr ho)
  · rcases hs1 with h3 | h3
    · rw [show a = 9218868437227405312 from by omega]; exact law_inf
    · rw [show a = 18442240474082181120 from by omega]
      exact law_low (exact_no (.inr ⟨by decide +kernel, .inl (by decide +kernel)⟩)) (.inr (by decide +kernel))
  · have hf : ∃ f, f = c - 9218868437227405312 := ⟨_, rfl⟩
    obtain ⟨f, hf⟩ := hf
    have ea : a = s * 9223372036854775808 + 9218868437227405312 + f := three ha (by rw [hf]; exact (Nat.add_sub_cancel' (Nat.le_of_lt h1)).symm)
    have hf0 : 1 ≤ f := by rw [hf]; exact Nat.sub_pos_of_lt h1
    have hf1 : f < 4503599627370496 := by omega
    have ho : ∀ b, FloatKind.f64.format.order a b = none := fun b => by rw [ea]; exact order_nan (by omega) hf0 hf1 b
    have hn : math_IsNaN.f a = some true := by
      unfold math_IsNaN.f
      rw [ho]; rfl
    exact law_low (exact_no (.inl hn)) (.inl (ho 0))
theorem law_k {a : Nat} (h : a < 18446744073709551616) : ∃ k, samphirelaw04_ApproxBack.f k a = some true := (law_ev h).rounds
end Go.Proofs.YtamhiecepipnjaaDoor.GApproxBack
