/- The law ApproxNear: the nearest of the floats (no program in sight); one fraction less another; the law over the printed functions. -/
import Derived.Test.YtamhiecepipnjaaDoorC5ApproxNear
import Derived.Test.YtamhiecepipnjaaDoorB2
namespace Go.Proofs.YtamhiecepipnjaaDoor.Pl
set_option linter.unusedVariables false
/-- What a number's bits stand for, over 2^1074. -/
def vl (b : Nat) : Int := ((mg b * 2 ^ pl b : Nat) : Int)
theorem vl_mono {a b : Nat} (h : a < b) : vl a < vl b := Int.ofNat_lt.2 (val_mono h)
theorem vl_at {E r : Nat} (h0 : 4503599627370496 ≤ r) (h1 : r < 9007199254740992) : vl (E * 4503599627370496 + r) = r * P2 E := by
  have hb : ¬ E * 4503599627370496 + r < 4503599627370496 := by omega
  have e1 : mg (E * 4503599627370496 + r) = r := by unfold mg; rw [if_neg hb]; omega
  have e2 : pl (E * 4503599627370496 + r) = E := by unfold pl; omega
  unfold vl
  rw [e1, e2, Int.natCast_mul, P2_nat]
theorem vl_top (E : Nat) : vl (E * 4503599627370496 + 9007199254740992) = (9007199254740992 : Int) * P2 E := by
  rw [show E * 4503599627370496 + 9007199254740992 = (E + 1) * 4503599627370496 + 4503599627370496 from by omega, vl_at (by omega) (by omega), P2_succ]
  generalize P2 E = P; omega
theorem vl_to {E r : Nat} (h0 : 4503599627370496 ≤ r) (h1 : r ≤ 9007199254740992) : vl (E * 4503599627370496 + r) = r * P2 E := by
  rcases Nat.lt_or_ge r 9007199254740992 with h2 | h2
  · exact vl_at h0 h2
  · obtain rfl : r = 9007199254740992 := by omega
    exact vl_top E
theorem vl_up {E r : Nat} (h0 : 4503599627370496 ≤ r) (h1 : r ≤ 9007199254740992) : ((r : Int) + 1) * P2 E ≤ vl (E * 4503599627370496 + r + 1) := by
  have hP := P2_pos E
  rcases Nat.lt_or_ge r 9007199254740992 with h2 | h2
  · rw [Nat.add_assoc, vl_to (by omega) (by omega)]; exact Int.le_of_eq rfl
  · obtain rfl : r = 9007199254740992 := by omega
    rw [show E * 4503599627370496 + 9007199254740992 + 1 = (E + 1) * 4503599627370496 + 4503599627370497 from by omega, vl_at (by omega) (by omega), P2_succ]
    generalize P2 E = P at *; omega
/-- No farther: 'X' from 'f' than from 'g'. -/
def NoFarther (X f g : Int) : Prop := (g ≤ X → X - f ≤ X - g ∧ f - X ≤ X - g) ∧ (X ≤ g → X - f ≤ g - X ∧ f - X ≤ g - X)
theorem bin_near {X d : Int} {E q : Nat} {R : Int} (h : Bin X d E q R) (hd : 0 < d) {g : Nat} (hg : g + 1 = E * 4503599627370496 + rup q R (d * P2 E) ∨ g = E * 4503599627370496 + rup q R (d * P2 E) + 1) :
    NoFarther X (vl (E * 4503599627370496 + rup q R (d * P2 E)) * d) (vl g * d) := by
  have hP := P2_pos E
  have hD : 0 < d * P2 E := Int.mul_pos hd hP
  have h0 := h.h0; have h1 := h.h1; have hR := h.hR; have hR1 := h.hR1; have hX := h.hX
  have hr := rup_le q R (d * P2 E)
  have ev : ∀ r : Nat, (r : Int) * P2 E * d = r * (d * P2 E) := fun r => by generalize P2 E = P; grind
  rw [vl_to (by omega) (by omega), ev]
  have lo : ∀ a : Nat, vl a * d < vl (a + 1) * d := fun a => (Int.mul_lt_mul_right hd).2 (vl_mono (Nat.lt_succ_self a))
  by_cases hc : 2 * R > d * P2 E ∨ 2 * R = d * P2 E ∧ q % 2 = 1
  · have er : rup q R (d * P2 E) = q + 1 := by unfold rup; rw [if_pos hc]
    rw [er] at hg ⊢
    have hq1 : ((q + 1 : Nat) : Int) * (d * P2 E) = q * (d * P2 E) + d * P2 E := by rw [Int.natCast_add, Int.add_mul]; simp
    rcases hg with hg | hg
    · obtain rfl : g = E * 4503599627370496 + q := by omega
      rw [vl_to h0 (by omega), ev, hq1]
      generalize (q : Int) * (d * P2 E) = Q at *
      generalize d * P2 E = D at *
      constructor <;> intro hh <;> omega
    · have hu : ((q + 1 : Nat) : Int) * (d * P2 E) ≤ vl g * d := by
        have := lo (E * 4503599627370496 + (q + 1))
        rw [vl_to (by omega) (by omega), ev, ← hg] at this
        omega
      rw [hq1] at hu ⊢
      generalize vl g * d = G at *
      generalize (q : Int) * (d * P2 E) = Q at *
      generalize d * P2 E = D at *
      constructor <;> intro hh <;> omega
  · have er : rup q R (d * P2 E) = q := by unfold rup; rw [if_neg hc]
    have hR2 : 2 * R ≤ d * P2 E := by omega
    rw [er] at hg ⊢
    rcases hg with hg | hg
    · have hl : vl g * d < (q : Int) * (d * P2 E) := by
        have := lo g
        rw [hg, vl_to h0 (by omega), ev] at this
        exact this
      generalize vl g * d = G at *
      generalize (q : Int) * (d * P2 E) = Q at *
      generalize d * P2 E = D at *
      constructor <;> intro hh <;> omega
    · have hu : ((q : Int) + 1) * P2 E * d ≤ vl g * d := by
        rw [hg]; exact Int.mul_le_mul_of_nonneg_right (vl_up h0 (by omega)) (Int.le_of_lt hd)
      have e1 : ((q : Int) + 1) * P2 E * d = q * (d * P2 E) + d * P2 E := by generalize P2 E = P; grind
      rw [e1] at hu
      generalize vl g * d = G at *
      generalize (q : Int) * (d * P2 E) = Q at *
      generalize d * P2 E = D at *
      constructor <;> intro hh <;> omega
end Go.Proofs.YtamhiecepipnjaaDoor.Pl
namespace Go.Proofs.YtamhiecepipnjaaDoor.GApproxNear
open Go.RowKit Go.Proofs.YtamhiecepipnjaaDoorW.PrintWords Go.Proofs.YtamhiecepipnjaaDoorW.PrintLast Go.Proofs.YtamhiecepipnjaaDoorW.PrintMore Go.Proofs.YtamhiecepipnjaaDoor.Pl
set_option linter.unusedVariables false
set_option linter.unusedSimpArgs false

theorem isRat_zero : IsRat [] [1] := ⟨⟨Wf.nil, by intro x hx; simp at hx, by simp⟩, isNat_one, by simp, by decide⟩
/-! ### One fraction less another -/
theorem len_mul {a b : List Int} (ha : Wf a) (hb : Wf b) {x : List Int} (hx : Wf x) (hn : Nrm x) (hv : V x = V a * V b) : x.length ≤ a.length + b.length := by
  refine len_le hx hn ?_
  rw [hv, W_add]
  have h1 := V_lt ha; have h2 := V_lt hb; have h3 := V_nonneg ha; have h4 := V_nonneg hb
  rcases Int.lt_or_eq_of_le h4 with h5 | h5
  · exact Int.lt_of_lt_of_le ((Int.mul_lt_mul_right h5).2 h1) (Int.mul_le_mul_of_nonneg_left (Int.le_of_lt h2) (Int.le_of_lt (W_pos _)))
  · rw [← h5, Int.mul_zero]; exact Int.mul_pos (W_pos _) (W_pos _)
theorem sub_ge {n d m e : List Int} (h : IsRat n d) (k : IsRat m e) (l1 : n.length + e.length ≤ 60) (l2 : m.length + d.length ≤ 60) (l3 : d.length + e.length ≤ 60) (hle : V m * V d ≤ V n * V e) :
    ∃ n' d', IsRat n' d' ∧ n'.length ≤ n.length + e.length ∧ d'.length ≤ d.length + e.length ∧ V n' * (V d * V e) = (V n * V e - V m * V d) * V d' ∧ Ev (fun k => rat_Sub.f k n d m e) (n', d', 0) := by
  have hdp := h.dpos
  have hep := k.dpos
  obtain ⟨p, hp, hpn, hpv, hpe⟩ := mul_f h.2.1 k.2.1
  have hpl := len_mul h.2.1.1 k.2.1.1 hp hpn hpv
  obtain ⟨x, y, hx, hxn, hxv, hy, hyn, hyv, hok, _⟩ := cross_f h k
  have hxl := len_mul h.1.1 k.2.1.1 hx hxn hxv
  have hyl := len_mul k.1.1 h.2.1.1 hy hyn hyv
  have hxN : IsNat x := ⟨hx, hxn, by omega⟩
  have hyN : IsNat y := ⟨hy, hyn, by omega⟩
  obtain ⟨s, hs, hsv, hse⟩ := sub_f hxN hyN (by rw [hxv, hyv]; exact hle)
  have hsl : s.length ≤ x.length := len_lt_of_V_lt hs.1 hx hs.2.1 (by rw [hsv]; have := V_nonneg hy; omega)
  have hpp : 0 < V p := by rw [hpv]; exact Int.mul_pos hdp hep
  have p0 : p ≠ [] := ne_nil_of_pos hpp
  obtain ⟨n', d', hr, h1, h2, hred⟩ := reduce_f (n := s) (d := p) hs ⟨hp, hpn, by omega⟩ p0
  have hs0 : 0 ≤ V s := V_nonneg hs.1
  have hg : 0 < gcdV (V s) (V p) := gcdV_pos hpp
  refine ⟨n', d', hr, ?_, ?_, ?_, ?_⟩
  · refine Nat.le_trans (len_lt_of_V_lt hr.1.1 hs.1 hr.1.2.1 ?_) (by omega)
    rw [h1]; exact Int.ediv_le_self _ hs0
  · refine Nat.le_trans (len_lt_of_V_lt hr.2.1.1 hp hr.2.1.2.1 ?_) hpl
    rw [h2]; exact Int.ediv_le_self _ (by omega)
  · have h3 := cross_of_div (a := V s) (b := V p) hs0 hpp
    rw [← h1, ← h2, hsv, hxv, hyv, hpv] at h3
    exact h3
  · rw [if_neg (by omega)] at hpe
    refine ev_bind (g := fun k => rat_joined__nat_Sub.f k n d m e) (x := (n', d', 0)) ?_ (ev_now rfl)
    exact ev_bind (both_f h k) (ev_pos rfl (ev_bind hpe (ev_pos rfl (ev_bind (hok (by omega) (by omega)) (ev_pos rfl (ev_bind hse (ev_pos rfl (ev_bindr hred rfl))))))))
theorem sub_lt {n d m e : List Int} (h : IsRat n d) (k : IsRat m e) (l1 : n.length + e.length ≤ 60) (l2 : m.length + d.length ≤ 60) (l3 : d.length + e.length ≤ 60) (hlt : V n * V e < V m * V d) : Ev (fun k => rat_Sub.f k n d m e) ([], [], 1) := by
  obtain ⟨p, hp, hpn, hpv, hpe⟩ := mul_f h.2.1 k.2.1
  have hpl := len_mul h.2.1.1 k.2.1.1 hp hpn hpv
  obtain ⟨x, y, hx, hxn, hxv, hy, hyn, hyv, hok, _⟩ := cross_f h k
  have hxl := len_mul h.1.1 k.2.1.1 hx hxn hxv
  have hyl := len_mul k.1.1 h.2.1.1 hy hyn hyv
  have hse := sub_less (a := x) (b := y) ⟨hx, hxn, by omega⟩ ⟨hy, hyn, by omega⟩ (by rw [hxv, hyv]; exact hlt)
  rw [if_neg (by omega)] at hpe
  refine ev_bind (g := fun k => rat_joined__nat_Sub.f k n d m e) (x := ([], [], 1)) ?_ (ev_now rfl)
  exact ev_bind (both_f h k) (ev_pos rfl (ev_bind hpe (ev_pos rfl (ev_bind (hok (by omega) (by omega)) (ev_pos rfl (ev_bind hse (ev_neg (by decide) (ev_now rfl))))))))
/-! ### How far -/
/-- 'c / e' is how far 'n / d' is from 'm / e'. -/
structure Far (n d m e c f : List Int) : Prop where
  rat : IsRat c f
  lc : c.length ≤ max (n.length + e.length) (m.length + d.length)
  lf : f.length ≤ d.length + e.length
  up : V m * V d ≤ V n * V e → V c * (V d * V e) = (V n * V e - V m * V d) * V f
  dn : V n * V e ≤ V m * V d → V c * (V d * V e) = (V m * V d - V n * V e) * V f
theorem far_f {n d m e : List Int} (h : IsRat n d) (k : IsRat m e) (l1 : n.length + e.length ≤ 60) (l2 : m.length + d.length ≤ 60) (l3 : d.length + e.length ≤ 60) :
    ∃ c f, Far n d m e c f ∧ (V m * V d ≤ V n * V e → Ev (fun k => rat_Sub.f k n d m e) (c, f, 0)) ∧ (V n * V e < V m * V d → Ev (fun k => rat_Sub.f k n d m e) ([], [], 1) ∧ Ev (fun k => rat_Sub.f k m e n d) (c, f, 0)) := by
  rcases Int.lt_or_le (V n * V e) (V m * V d) with hlt | hle
  · obtain ⟨c, f, hr, hc, hf, hv, hev⟩ := sub_ge k h l2 l1 (by omega) (Int.le_of_lt hlt)
    exact ⟨c, f, ⟨hr, by omega, by omega, fun h => by omega, fun _ => by rw [Int.mul_comm (V d)]; exact hv⟩, fun h => by omega, fun _ => ⟨sub_lt h k l1 l2 l3 hlt, hev⟩⟩
  · obtain ⟨c, f, hr, hc, hf, hv, hev⟩ := sub_ge h k l1 l2 l3 hle
    refine ⟨c, f, ⟨hr, by omega, by omega, fun _ => hv, fun h => ?_⟩, fun _ => hev, fun h => by omega⟩
    have e0 : V m * V d - V n * V e = V n * V e - V m * V d := by omega
    rw [e0]; exact hv
theorem far_zero {n d m e : List Int} (h : IsRat n d) (k : IsRat m e) (heq : V n * V e = V m * V d) : Far n d m e [] [1] := by
  have hd := List.length_pos_iff.2 h.2.2.1
  refine ⟨isRat_zero, Nat.zero_le _, by simp only [List.length_cons, List.length_nil]; omega, fun _ => ?_, fun _ => ?_⟩ <;> rw [heq, Int.sub_self] <;> simp [V]
/-- The rest that Error tells. -/
theorem error_far {n d m e : List Int} {b : Nat} (h : IsRat n d) (k : IsRat m e) (l1 : n.length + e.length ≤ 60) (l2 : m.length + d.length ≤ 60) (l3 : d.length + e.length ≤ 60)
    (hF : Ev (fun k => approx_Float.f k n d) (b, 0)) (hE : Ev (fun k => approx_Exact.f k b) (m, e, 0)) : ∃ c f, Far n d m e c f ∧ Ev (fun k => approx_Error.f k n d) (c, f, 0) := by
  have hc := ratCmp_small h k (by omega) (by omega)
  rcases Int.lt_trichotomy (V n * V e) (V m * V d) with hlt | heq | hgt
  · obtain ⟨c, f, hf, _, hdn⟩ := far_f h k l1 l2 l3
    rw [sgn_lt hlt] at hc
    exact ⟨c, f, hf, ev_bind hF (ev_pos rfl (ev_bind hE (ev_pos rfl (ev_bind hc (ev_pos rfl (ev_neg (by decide) (ev_pos (by decide) (ev_bindr (hdn hlt).2 rfl))))))))⟩
  · rw [heq, sgn_eq] at hc
    obtain ⟨r, hr, hrn, hrv⟩ := whole_f 0 (by decide) (by decide)
    have hr0 : r = [] := V_inj_nrm hrn.1 Wf.nil hrn.2.1 (by intro x hx; simp at hx) (by rw [hrv]; rfl)
    subst hr0
    exact ⟨[], [1], far_zero h k heq, ev_bind hF (ev_pos rfl (ev_bind hE (ev_pos rfl (ev_bind hc (ev_pos rfl (ev_pos rfl (ev_bindr hr rfl)))))))⟩
  · obtain ⟨c, f, hf, hup, _⟩ := far_f h k l1 l2 l3
    rw [sgn_gt hgt] at hc
    exact ⟨c, f, hf, ev_bind hF (ev_pos rfl (ev_bind hE (ev_pos rfl (ev_bind hc (ev_pos rfl (ev_neg (by decide) (ev_neg (by decide) (ev_bindr (hup (Int.le_of_lt hgt)) rfl))))))))⟩
/-- No farther: the two rests stand so. -/
theorem far_le {n d m e c f m' e' c' f' : List Int} (h : IsRat n d) (k : IsRat m e) (k' : IsRat m' e') (hf : Far n d m e c f) (hf' : Far n d m' e' c' f') {P x y : Int} (hP : 0 < P) (hx : V m * P = x * V e) (hy : V m' * P = y * V e')
    (hn : NoFarther (V n * P) (x * V d) (y * V d)) : V c * V f' ≤ V c' * V f := by
  have hd := h.dpos
  have he := k.dpos
  have he' := k'.dpos
  have f0 := hf.rat.dpos
  have f0' := hf'.rat.dpos
  -- the two by the common whole
  have key : ∀ {A A' : Int}, V c * (V d * V e) = A * V f → V c' * (V d * V e') = A' * V f' → A * V e' ≤ A' * V e → V c * V f' ≤ V c' * V f := by
    intro A A' h1 h2 h3
    refine (Int.mul_le_mul_right (Int.mul_pos (Int.mul_pos hd he) he')).1 ?_
    have e1 : V c * V f' * (V d * V e * V e') = A * V e' * (V f * V f') := by
      have : V c * V f' * (V d * V e * V e') = V c * (V d * V e) * (V f' * V e') := by grind
      rw [this, h1]; grind
    have e2 : V c' * V f * (V d * V e * V e') = A' * V e * (V f * V f') := by
      have : V c' * V f * (V d * V e * V e') = V c' * (V d * V e') * (V f * V e) := by grind
      rw [this, h2]; grind
    rw [e1, e2]
    exact Int.mul_le_mul_of_nonneg_right h3 (Int.le_of_lt (Int.mul_pos f0 f0'))
  have u1 : V n * V e * P = V n * P * V e := by grind
  have u2 : V m * V d * P = x * V d * V e := by rw [Int.mul_right_comm, hx]; grind
  have u3 : V n * V e' * P = V n * P * V e' := by grind
  have u4 : V m' * V d * P = y * V d * V e' := by rw [Int.mul_right_comm, hy]; grind
  have cmp1 : V m * V d ≤ V n * V e ↔ x * V d ≤ V n * P := by
    rw [← Int.mul_le_mul_right hP, u1, u2]; exact Int.mul_le_mul_right he
  have cmp2 : V m' * V d ≤ V n * V e' ↔ y * V d ≤ V n * P := by
    rw [← Int.mul_le_mul_right hP, u3, u4]; exact Int.mul_le_mul_right he'
  have fin : ∀ {A A' B B' : Int}, A * P = B * V e → A' * P = B' * V e' → B ≤ B' → A * V e' ≤ A' * V e := by
    intro A A' B B' h1 h2 h3
    refine (Int.mul_le_mul_right hP).1 ?_
    have e1 : A * V e' * P = B * (V e * V e') := by rw [Int.mul_right_comm, h1]; grind
    have e2 : A' * V e * P = B' * (V e * V e') := by rw [Int.mul_right_comm, h2]; grind
    rw [e1, e2]
    exact Int.mul_le_mul_of_nonneg_right h3 (Int.le_of_lt (Int.mul_pos he he'))
  have s1 : (V n * V e - V m * V d) * P = (V n * P - x * V d) * V e := by rw [Int.sub_mul, u1, u2, Int.sub_mul]
  have s2 : (V m * V d - V n * V e) * P = (x * V d - V n * P) * V e := by rw [Int.sub_mul, u1, u2, Int.sub_mul]
  have s3 : (V n * V e' - V m' * V d) * P = (V n * P - y * V d) * V e' := by rw [Int.sub_mul, u3, u4, Int.sub_mul]
  have s4 : (V m' * V d - V n * V e') * P = (y * V d - V n * P) * V e' := by rw [Int.sub_mul, u3, u4, Int.sub_mul]
  rcases Int.le_total (x * V d) (V n * P) with a1 | a1
  · have b1 := hf.up (cmp1.2 a1)
    rcases Int.le_total (y * V d) (V n * P) with a2 | a2
    · exact key b1 (hf'.up (cmp2.2 a2)) (fin s1 s3 (hn.1 a2).1)
    · refine key b1 (hf'.dn ?_) (fin s1 s4 (hn.2 a2).1)
      refine (Int.mul_le_mul_right hP).1 ?_
      rw [u3, u4]; exact Int.mul_le_mul_of_nonneg_right a2 (Int.le_of_lt he')
  · have b1 := hf.dn (by
      refine (Int.mul_le_mul_right hP).1 ?_
      rw [u1, u2]; exact Int.mul_le_mul_of_nonneg_right a1 (Int.le_of_lt he))
    rcases Int.le_total (y * V d) (V n * P) with a2 | a2
    · exact key b1 (hf'.up (cmp2.2 a2)) (fin s2 s3 (hn.1 a2).2)
    · refine key b1 (hf'.dn ?_) (fin s2 s4 (hn.2 a2).2)
      refine (Int.mul_le_mul_right hP).1 ?_
      rw [u3, u4]; exact Int.mul_le_mul_of_nonneg_right a2 (Int.le_of_lt he')
end Go.Proofs.YtamhiecepipnjaaDoor.GApproxNear
namespace Go.Proofs.YtamhiecepipnjaaDoor.GApproxNear
open Go.RowKit Go.Proofs.YtamhiecepipnjaaDoorW.PrintWords Go.Proofs.YtamhiecepipnjaaDoorW.PrintLast Go.Proofs.YtamhiecepipnjaaDoorW.PrintMore Go.Proofs.YtamhiecepipnjaaDoor.Pl
set_option linter.unusedVariables false
set_option linter.unusedSimpArgs false

/-! ### How long the fractions are -/
theorem cop_dvd {a b p : Int} (ha : 0 ≤ a) (hb : 0 < b) (hp : 0 ≤ p) (h : gcdV a b = 1) (hd : b ∣ a * p) : b ∣ p := by
  obtain ⟨a, rfl⟩ := Int.eq_ofNat_of_zero_le ha
  obtain ⟨b, rfl⟩ := Int.eq_ofNat_of_zero_le (Int.le_of_lt hb)
  obtain ⟨p, rfl⟩ := Int.eq_ofNat_of_zero_le hp
  unfold gcdV at h
  simp only [Int.toNat_natCast] at h
  have h4 : Nat.gcd b a = 1 := by rw [Nat.gcd_comm]; exact_mod_cast h
  have h5 : b ∣ a * p := by exact_mod_cast hd
  exact Int.natCast_dvd_natCast.2 (Nat.Coprime.dvd_of_dvd_mul_left h4 h5)
theorem few_f {g : Nat} {n d : List Int} (h : IsRat n d) (hv : V n * P2 1074 = ((mg g * 2 ^ pl g : Nat) : Int) * V d) (h1 : 765 ≤ pl g) (h2 : pl g ≤ 1280) : n.length ≤ 18 ∧ d.length ≤ 10 := by
  have hdp := h.dpos
  have hn0 := h.nneg
  obtain ⟨t, ht⟩ : ∃ t, pl g = t + 765 := ⟨pl g - 765, by omega⟩
  have ht1 : t ≤ 515 := by omega
  have hml := mg_lt g
  have hv2 : V n * P2 309 = (mg g : Int) * P2 t * V d := by
    refine Int.eq_of_mul_eq_mul_right (a := P2 765) (by have := P2_pos 765; omega) ?_
    rw [Int.natCast_mul, P2_nat, ht, P2_add, show (1074 : Nat) = 309 + 765 from rfl, P2_add] at hv
    generalize P2 309 = A at *
    generalize P2 765 = B at *
    generalize P2 t = C at *
    rw [show V n * A * B = V n * (A * B) from Int.mul_assoc _ _ _, hv]; grind
  have hdv : V d ∣ P2 309 := cop_dvd hn0 hdp (Int.le_of_lt (P2_pos _)) h.2.2.2 ⟨(mg g : Int) * P2 t, by rw [hv2, Int.mul_comm]⟩
  have hd1 := Int.le_of_dvd (P2_pos 309) hdv
  have hPt := P2_pos t
  have hn1 : V n ≤ (mg g : Int) * P2 t := by
    refine (Int.mul_le_mul_right (P2_pos 309)).1 ?_
    rw [hv2]
    exact Int.mul_le_mul_of_nonneg_left hd1 (Int.mul_nonneg (by omega) (Int.le_of_lt hPt))
  refine ⟨len_le h.1.1 h.1.2.1 ?_, len_le h.2.1.1 h.2.1.2.1 ?_⟩
  · rw [W_P2]
    have a1 : (mg g : Int) * P2 t < 9007199254740992 * P2 t := (Int.mul_lt_mul_right hPt).2 (by omega)
    have a2 : P2 (53 + t) ≤ P2 (32 * 18) := P2_mono (by omega)
    rw [P2_add, show P2 53 = 9007199254740992 from by decide] at a2
    omega
  · rw [W_P2]
    have a2 : P2 (309 + 1) ≤ P2 (32 * 10) := P2_mono (by omega)
    rw [P2_succ] at a2
    have := P2_pos 309
    omega
theorem place_in {n d : List Int} {E q : Nat} {R : Int} (h : IsRat n d) (ln : n.length ≤ 8) (ld : d.length ≤ 8) (hn : 0 < V n) (hb : Bin (V n * P2 1074) (V d) E q R) : 766 ≤ E ∧ E ≤ 1278 := by
  have hdp := h.dpos
  have n8 := small_lt h.1.1 ln
  have d8 := small_lt h.2.1.1 ld
  have hE := P2_pos E
  have h74 := P2_pos 1074
  have lo := hb.lo hdp
  have hi := hb.hi hdp
  constructor
  · have a1 : 1 * P2 1074 ≤ V n * P2 1074 := Int.mul_le_mul_of_nonneg_right hn (Int.le_of_lt h74)
    have a2 : V d * P2 E ≤ P2 (32 * 8) * P2 E := Int.mul_le_mul_of_nonneg_right (Int.le_of_lt d8) (Int.le_of_lt hE)
    have a3 : P2 1074 < P2 (53 + (32 * 8 + E)) := by
      rw [P2_add 53, P2_add, show P2 53 = 9007199254740992 from by decide]
      omega
    have := P2_lt a3
    omega
  · have a1 : V n * P2 1074 < P2 (32 * 8) * P2 1074 := (Int.mul_lt_mul_right h74).2 n8
    have a2 : 1 * P2 E ≤ V d * P2 E := Int.mul_le_mul_of_nonneg_right hdp (Int.le_of_lt hE)
    have a3 : P2 (52 + E) < P2 (32 * 8 + 1074) := by
      rw [P2_add, P2_add, show P2 52 = 4503599627370496 from by decide]
      omega
    have := P2_lt a3
    omega
/-! ### One neighbour -/
/-- What the law asks of a neighbour. -/
def Step (n d c f : List Int) (g : Nat) : Prop := ∃ m' e' c' f' : List Int, Ev (fun k => approx_Exact.f k g) (m', e', 0) ∧ (Ev (fun k => rat_Sub.f k n d m' e') (c', f', 0) ∨ Ev (fun k => rat_Sub.f k n d m' e') ([], [], 1) ∧ Ev (fun k => rat_Sub.f k m' e' n d) (c', f', 0)) ∧ ∃ s : Int, 0 ≤ s ∧ Ev (fun k => rat_Cmp.f k c' f' c f) (s, 0)
theorem mk_step {n d m e c f m' e' : List Int} {g : Nat} (h : IsRat n d) (k' : IsRat m' e') (hf : Far n d m e c f) (hE : Ev (fun k => approx_Exact.f k g) (m', e', 0)) (l1 : n.length + e'.length ≤ 60) (l2 : m'.length + d.length ≤ 60) (l3 : d.length + e'.length ≤ 60)
    (l4 : n.length + e'.length + f.length ≤ 64) (l6 : m'.length + d.length + f.length ≤ 64) (l5 : c.length + (d.length + e'.length) ≤ 64) (hle : ∀ c' f', Far n d m' e' c' f' → V c * V f' ≤ V c' * V f) : Step n d c f g := by
  obtain ⟨c', f', hf', hup, hdn⟩ := far_f h k' (by omega) (by omega) (by omega)
  have hl := hle c' f' hf'
  have lc := hf'.lc
  have lf := hf'.lf
  have hc := ratCmp_small hf'.rat hf.rat (by omega) (by omega)
  refine ⟨m', e', c', f', hE, ?_, _, ?_, hc⟩
  · rcases Int.lt_or_le (V n * V e') (V m' * V d) with h1 | h1
    · exact .inr (hdn h1)
    · exact .inl (hup h1)
  · unfold sgn
    rw [if_neg (by omega)]
    split <;> decide
theorem near_l0 {n d c f : List Int} {y : List Nat} (hy : ∀ j (h : j < y.length), Step n d c f y[j]) (hl : y.length ≤ 2) : ∀ (t i : Nat), i + t = y.length → Ev (fun k => samphirelaw04_ApproxNear.l0 k y (y.length : Int) (i : Int) n d c f) true
  | 0, i, h => Ev.step (fun k => samphirelaw04_ApproxNear.l0.eq_2 _ _ _ _ _ _ _ k) (ev_neg (by omega) (ev_bindr awake_f rfl))
  | t + 1, i, h => by
    have ih := near_l0 hy hl t (i + 1) (by omega)
    have e : wrap64 ((i : Int) + 1) = ((i + 1 : Nat) : Int) := by rw [w64 (by omega) (by omega)]; omega
    have hi : i < y.length := by omega
    obtain ⟨m', e', c', f', hE, hS, s, hs, hc⟩ := hy i hi
    have er : rdOf (0 : Nat) y (i : Int) = y[i] := by
      unfold rdOf; rw [Int.toNat_natCast, List.getD_eq_getElem?_getD, List.getElem?_eq_getElem hi]; rfl
    refine Ev.step (fun k => samphirelaw04_ApproxNear.l0.eq_2 _ _ _ _ _ _ _ k) ?_
    refine ev_pos (by omega) (ev_pos (by omega) (ev_pos (by omega) ?_))
    rw [er, e]
    refine ev_bind hE ?_
    rcases hS with h1 | ⟨h1, h2⟩
    · exact ev_bind h1 (ev_neg (show ¬ (0 : Int) = 1 by decide) (ev_bind hc (ev_pos rfl (ev_pos rfl (ev_pos rfl (ev_neg (by omega) ih))))))
    · exact ev_bind h1 (ev_pos rfl (ev_bind h2 (ev_bind hc (ev_pos rfl (ev_pos rfl (ev_pos rfl (ev_neg (by omega) ih)))))))
/-! ### Next to a float -/
theorem order_nil : FloatKind.f64.format.order 0 0 = some .eq := order_eq (by decide)
theorem order_inf {b : Nat} (h : b < 9218868437227405312) : FloatKind.f64.format.order b 9218868437227405312 = some .lt ∧ FloatKind.f64.format.order 9218868437227405312 b = some .gt := by
  have hr : Ieee.double.read 9218868437227405312 = .infinity false := by decide +kernel
  constructor
  · show Ieee.double.order b 9218868437227405312 = _
    unfold Ieee.Format.order
    rw [read_pos h, hr]; rfl
  · show Ieee.double.order 9218868437227405312 b = _
    unfold Ieee.Format.order
    rw [read_pos h, hr]; rfl
theorem isNaN_inf : math_IsNaN.f 9218868437227405312 = some false := by decide +kernel
theorem next_down {b : Nat} (h0 : 0 < b) (h1 : b < 9218868437227405312) : math_Nextafter.f b 0 = some (b - 1) := by
  unfold math_Nextafter.f
  rw [isNaN_f h1, isNaN_f (show 0 < 9218868437227405312 by decide)]
  simp only [Option.bind_some]
  rw [if_neg (by decide), if_neg (by decide), order_gt h1 h0, order_lt h1 h0, if_neg (by decide), if_neg (by decide), if_neg (by decide), u64_in (by omega) (by omega)]
  congr 1
  omega
theorem next_up {b : Nat} (h0 : 0 < b) (h1 : b < 9218868437227405312) : math_Nextafter.f b 9218868437227405312 = some (b + 1) := by
  unfold math_Nextafter.f
  rw [isNaN_f h1, isNaN_inf]
  simp only [Option.bind_some]
  rw [if_neg (by decide), if_neg (by decide), (order_inf h1).1, (order_inf h1).2, order_gt h1 h0, if_neg (by decide), if_neg (by decide), if_pos (by decide), u64_in (by omega) (by omega)]
  congr 1
theorem near_tail {n d c f : List Int} {b g1 g2 : Nat} (hF : Ev (fun k => approx_Float.f k n d) (b, 0)) (hE : Ev (fun k => approx_Error.f k n d) (c, f, 0)) (n1 : math_Nextafter.f b 0 = some g1) (n2 : math_Nextafter.f b 9218868437227405312 = some g2)
    (s1 : Step n d c f g1) (s2 : Step n d c f g2) : Ev (fun k => samphirelaw04_ApproxNear.j0 k false n d) true := by
  refine Ev.step (fun k => samphirelaw04_ApproxNear.j0.eq_2 _ _ _ k) ?_
  refine ev_neg (by decide) (ev_bind hF (ev_bind hE (ev_pos rfl (ev_pos rfl (ev_bindc n1 (ev_bindc (x := 9218868437227405312) rfl (ev_bindc n2 (ev_bindc rfl ?_))))))))
  refine near_l0 (y := [g1, g2]) (fun j hj => ?_) (by simp) 2 0 rfl
  match j, hj with
  | 0, _ => exact s1
  | 1, _ => exact s2
theorem exact_zero : Ev (fun k => approx_Exact.f k 0) ([], [1], 0) := by
  obtain ⟨r, hr, hrn, hrv⟩ := whole_f 0 (by decide) (by decide)
  have hr0 : r = [] := V_inj_nrm hrn.1 Wf.nil hrn.2.1 (by intro x hx; simp at hx) (by rw [hrv]; rfl)
  subst hr0
  have h1 : math_IsNaN.f 0 = some false := by decide +kernel
  have h2 : math_IsInf.f 0 0 = some false := by decide +kernel
  refine ev_bindc h1 (ev_neg (by decide) (ev_bindc h2 (ev_neg (by decide) ?_)))
  exact Ev.step (fun k => approx_Exact.j0.eq_2 _ _ k) (ev_neg (by rw [order_nil]; decide) (ev_pos (by rw [order_nil]; rfl) (ev_bindr hr rfl)))
theorem near_zero {n d : List Int} (h : IsRat n d) (hn : V n = 0) (ld : d.length ≤ 8) : Ev (fun k => samphirelaw04_ApproxNear.j0 k false n d) true := by
  have hdp := h.dpos
  have hn0 : n = [] := V_inj_nrm h.1.1 Wf.nil h.1.2.1 (by intro x hx; simp at hx) (by rw [hn]; rfl)
  subst hn0
  obtain ⟨b, hb, hF⟩ := Float_f h (by simp) (by omega)
  have hb0 : b = 0 := by
    rcases hb with ⟨_, h⟩ | ⟨h, _⟩
    · exact h
    · rw [hn] at h; omega
  subst hb0
  obtain ⟨c, f, hf, hE⟩ := error_far h isRat_zero (by simp) (by simp; omega) (by simp; omega) hF exact_zero
  have hc0 : V c = 0 := by
    have := hf.up (by rw [hn]; simp [V])
    rw [hn, V_one] at this
    have h2 : V c * (V d * 1) = 0 := by rw [this]; simp
    rcases Int.mul_eq_zero.1 h2 with h3 | h3
    · exact h3
    · omega
  have hcl : c.length ≤ 9 := by have := hf.lc; simp at this; omega
  have hfl : f.length ≤ 9 := by have := hf.lf; simp at this; omega
  have hle : ∀ {m' e' : List Int} (c' f' : List Int), Far [] d m' e' c' f' → V c * V f' ≤ V c' * V f := fun c' f' k => by
    rw [hc0, Int.zero_mul]; exact Int.mul_nonneg k.rat.nneg (Int.le_of_lt hf.rat.dpos)
  obtain ⟨m', e', k', hl, _, hx⟩ := exact_f (b := 1) (by decide) (by decide)
  refine near_tail hF hE (g1 := 0) (g2 := 1) (by decide +kernel) (by decide +kernel) (mk_step h isRat_zero hf exact_zero (by simp) (by simp; omega) (by simp; omega) (by simp; omega) (by simp; omega) (by simp; omega) hle) ?_
  exact mk_step h k' hf hx (by simp; omega) (by omega) (by omega) (by simp; omega) (by omega) (by omega) hle
theorem near_pos {n d : List Int} (h : IsRat n d) (hn : 0 < V n) (ln : n.length ≤ 8) (ld : d.length ≤ 8) : Ev (fun k => samphirelaw04_ApproxNear.j0 k false n d) true := by
  have hdp := h.dpos
  obtain ⟨b, hb, hF⟩ := Float_f h (by omega) (by omega)
  rcases hb with ⟨h0, _⟩ | ⟨_, E, q, R, hE, hbin, hbe⟩
  · omega
  have hp := place_in h ln ld hn hbin
  have hr := rup_le q R (V d * P2 E)
  have q0 := hbin.h0
  have q1 := hbin.h1
  have ex : ∀ g : Nat, g = b ∨ g + 1 = b ∨ g = b + 1 → ∃ m e, IsRat m e ∧ m.length ≤ 18 ∧ e.length ≤ 10 ∧ V m * P2 1074 = vl g * V e ∧ Ev (fun k => approx_Exact.f k g) (m, e, 0) := fun g hg => by
    obtain ⟨m, e, hr2, _, hv, hev⟩ := exact_f (b := g) (by omega) (by omega)
    have := few_f hr2 hv (by unfold pl; omega) (by unfold pl; omega)
    exact ⟨m, e, hr2, this.1, this.2, hv, hev⟩
  obtain ⟨m, e, k, lm, le, hv, hx⟩ := ex b (.inl rfl)
  obtain ⟨c, f, hf, hEr⟩ := error_far h k (by omega) (by omega) (by omega) hF hx
  have lc := hf.lc
  have lf := hf.lf
  have st : ∀ g : Nat, g + 1 = b ∨ g = b + 1 → Step n d c f g := fun g hg => by
    obtain ⟨m', e', k', lm', le', hv', hx'⟩ := ex g (.inr hg)
    refine mk_step h k' hf hx' (by omega) (by omega) (by omega) (by omega) (by omega) (by omega) fun c' f' hf' => ?_
    refine far_le h k k' hf hf' (P2_pos 1074) hv hv' ?_
    rw [hbe]
    exact bin_near hbin hdp (by rw [← hbe]; exact hg)
  exact near_tail hF hEr (next_down (by omega) (by omega)) (next_up (by omega) (by omega)) (st (b - 1) (by omega)) (st (b + 1) (.inr rfl))
theorem near_skip (n d : List Int) : Ev (fun k => samphirelaw04_ApproxNear.j0 k true n d) true :=
  Ev.step (fun k => samphirelaw04_ApproxNear.j0.eq_2 _ _ _ k) (ev_pos rfl (ev_bindr awake_f rfl))
theorem law_ev {n d : List Int} (hn : Wf n) (hd : Wf d) : Ev (fun k => samphirelaw04_ApproxNear.f k n d) true := by
  by_cases h1 : (n.length : Int) > 8
  · exact ev_pos h1 (near_skip n d)
  · refine ev_neg h1 ?_
    by_cases h2 : (d.length : Int) > 8
    · exact ev_pos h2 (near_skip n d)
    · refine ev_neg h2 (ev_bind (ratRight_f hn hd) ?_)
      by_cases h3 : IsRat n d
      · simp only [h3, decide_true, Bool.not_true]
        rcases Int.lt_or_eq_of_le h3.nneg with h4 | h4
        · exact near_pos h3 h4 (by omega) (by omega)
        · exact near_zero h3 h4.symm (by omega)
      · simp only [h3, decide_false, Bool.not_false]
        exact near_skip n d
theorem law_k {n d : List Int} (hn : Wf n) (hd : Wf d) : ∃ k, samphirelaw04_ApproxNear.f k n d = some true := (law_ev hn hd).rounds
end Go.Proofs.YtamhiecepipnjaaDoor.GApproxNear
