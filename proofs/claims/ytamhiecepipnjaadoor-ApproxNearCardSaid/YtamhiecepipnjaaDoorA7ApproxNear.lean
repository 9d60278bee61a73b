/- What the printed functions tell: long, split, Div, Gcd. -/
import Derived.Test.YtamhiecepipnjaaDoorA6ApproxNear
namespace Go.Proofs.YtamhiecepipnjaaDoor.GApproxNear
open Go.RowKit Go.Proofs.YtamhiecepipnjaaDoorW.PrintWords Go.Proofs.YtamhiecepipnjaaDoorW.PrintLast Go.Proofs.YtamhiecepipnjaaDoorW.PrintMore Go.Proofs.YtamhiecepipnjaaDoor.Pl
set_option linter.unusedVariables false
set_option linter.unusedSimpArgs false

theorem pow_le31 {s : Nat} (h : s ≤ 31) : (2 : Int) ^ s ≤ 2147483648 := by
  have e : (2 : Int) ^ s * 2 ^ (31 - s) = 2147483648 := by rw [← Int.pow_add, show s + (31 - s) = 31 by omega]; decide
  have h1 : (0 : Int) < 2 ^ s := Int.pow_pos (by decide)
  have h2 : (0 : Int) < 2 ^ (31 - s) := Int.pow_pos (by decide)
  have := Int.mul_le_mul_of_nonneg_left (show (1 : Int) ≤ 2 ^ (31 - s) by omega) (Int.le_of_lt h1)
  omega
theorem V_split_last (l : List Int) (n : Nat) (h : l.length = n + 1) : V l = V (l.take n) + W n * l.getD n 0 := by
  have := V_drop l 0 n (by omega)
  simp only [List.drop_zero, Nat.zero_add] at this
  rw [this, getD_drop (l := l) (i := n) (by omega), List.drop_eq_nil_of_le (by omega)]
  simp only [V]; simp
theorem long_f {a b : List Int} (ha : IsNat a) (hb : IsNat b) (h2 : 2 ≤ b.length) (hv : V b ≤ V a) :
    ∃ q r, IsNat q ∧ IsNat r ∧ V q * V b + V r = V a ∧ V r < V b ∧ Ev (fun k => nat_long.f k a b) (q, r) := by
  have hla := ha.2.2; have hlb := hb.2.2
  have hll := len_lt_of_V_lt hb.1 ha.1 hb.2.1 hv
  obtain ⟨n, hn⟩ : ∃ n, b.length = n + 2 := ⟨b.length - 2, by omega⟩
  have hbne : b ≠ [] := by intro e; rw [e] at h2; simp at h2
  have htop : b.getD (n + 1) 0 ≠ 0 := by
    have := (nrm_iff b hbne).1 hb.2.1
    rwa [show b.length - 1 = n + 1 by omega] at this
  have hT := hb.1.getD (n + 1)
  obtain ⟨s, t, hlz, hst, hlo, hhi⟩ := lz_f (show 0 < b.getD (n + 1) 0 by omega) hT.2
  have hsu : s + (t + 1) = 32 := by omega
  have hs : s ≤ 31 := by omega
  have hp : (0 : Int) < 2 ^ s := Int.pow_pos (by decide)
  have hq : (0 : Int) < 2 ^ (t + 1) := Int.pow_pos (by decide)
  have hpq := pow_pq hsu
  have hxa := shift_f ha.1 (by omega) hsu hs
  have hxb := shift_f hb.1 (by omega) hsu hs
  have hxal := shiftT_len (2 ^ s) (2 ^ (t + 1)) a 0
  have hxaw := shiftT_Wf hp hq hpq (c := 0) ha.1 (by omega) hp
  have hxav := shiftT_V (p := 2 ^ s) (q := 2 ^ (t + 1)) hpq a 0
  have hxbl := shiftT_len (2 ^ s) (2 ^ (t + 1)) b 0
  have hxbw := shiftT_Wf hp hq hpq (c := 0) hb.1 (by omega) hp
  have hxbv := shiftT_V (p := 2 ^ s) (q := 2 ^ (t + 1)) hpq b 0
  rw [Int.add_zero] at hxav hxbv
  have hun := fun R hR v hv => unshiftT_of (p := 2 ^ s) (q := 2 ^ (t + 1)) hp hq hpq (a := R) hR (n := v) hv
  have hunw := fun R hR => unshiftT_Wf (p := 2 ^ s) (q := 2 ^ (t + 1)) hp hq hpq (a := R) hR
  generalize hx : shiftT (2 ^ s) (2 ^ (t + 1)) a 0 = x at *
  generalize hz : shiftT (2 ^ s) (2 ^ (t + 1)) b 0 = z at *
  -- the divisor: its last limb is 0
  have hVb := V_split_last b (n + 1) (by omega)
  have hbt := V_lt (hb.1.take (n + 1))
  rw [List.length_take, Nat.min_eq_left (by omega)] at hbt
  have hbt0 := V_nonneg (hb.1.take (n + 1))
  have hW := W_pos (n + 1)
  have htp : (b.getD (n + 1) 0 + 1) * 2 ^ s ≤ 4294967296 := by
    rw [← hpq, Int.mul_comm (2 ^ s)]
    exact Int.mul_le_mul_of_nonneg_right (by omega) (by omega)
  have htp2 : 2147483648 ≤ b.getD (n + 1) 0 * 2 ^ s := by
    have h1 := Int.mul_le_mul_of_nonneg_right hlo (Int.le_of_lt hp)
    rw [← Int.pow_add, show t + s = 31 by omega] at h1
    exact h1
  have hDhi : V b * 2 ^ s < W (n + 2) := by
    rw [W_succ]
    have h1 : V b < W (n + 1) * (b.getD (n + 1) 0 + 1) := by rw [Int.mul_add]; omega
    have h2 := (Int.mul_lt_mul_right hp).2 h1
    have h3 : W (n + 1) * (b.getD (n + 1) 0 + 1) * 2 ^ s = W (n + 1) * ((b.getD (n + 1) 0 + 1) * 2 ^ s) := Int.mul_assoc _ _ _
    have h4 := Int.mul_le_mul_of_nonneg_left htp (Int.le_of_lt hW)
    rw [Int.mul_comm 4294967296]
    omega
  have hzl : z.length = n + 2 + 1 := by omega
  have hVz := V_split_last z (n + 2) hzl
  have hz0 := hxbw.getD (n + 2)
  have hzt0 := V_nonneg (hxbw.take (n + 2))
  have hztop : z.getD (n + 2) 0 = 0 := by
    have h1 : W (n + 2) * z.getD (n + 2) 0 < W (n + 2) * 1 := by rw [Int.mul_one]; omega
    have := mul_lt_cancel (W_pos _) h1
    omega
  have hD : V (z.take (n + 2)) = V b * 2 ^ s := by
    rw [hztop, Int.mul_zero] at hVz; omega
  have hyw := hxbw.take (n + 2)
  have hyl : (z.take (n + 2)).length = n + 2 := by rw [List.length_take]; omega
  have hVy := V_split_last (z.take (n + 2)) (n + 1) (by omega)
  have hyt := V_lt (hyw.take (n + 1))
  rw [List.length_take, Nat.min_eq_left (by omega)] at hyt
  have hy1 : 2147483648 ≤ (z.take (n + 2)).getD (n + 1) 0 := by
    have h1 : W (n + 1) * (b.getD (n + 1) 0 * 2 ^ s) ≤ V (z.take (n + 2)) := by
      rw [hD, hVb]
      have : (V (b.take (n + 1)) + W (n + 1) * b.getD (n + 1) 0) * 2 ^ s = V (b.take (n + 1)) * 2 ^ s + W (n + 1) * (b.getD (n + 1) 0 * 2 ^ s) := by grind
      rw [this]
      have := Int.mul_nonneg hbt0 (Int.le_of_lt hp)
      omega
    have h2 := Int.mul_le_mul_of_nonneg_left htp2 (Int.le_of_lt hW)
    have h3 : W (n + 1) * 2147483648 < W (n + 1) * ((z.take (n + 2)).getD (n + 1) 0 + 1) := by rw [Int.mul_add]; omega
    have := mul_lt_cancel hW h3
    omega
  -- the dividend: its last limbs are less than the divisor
  have hDpos : 0 < V b := hb.2.1.pos hb.1 hbne
  obtain ⟨m, hm⟩ : ∃ m, x.length = m + n + 2 := ⟨x.length - (n + 2), by omega⟩
  have hxtop : x.getD (m + n + 1) 0 < 2 ^ s := by
    have h1 := V_split_last x (m + n + 1) (by omega)
    have h2 := V_nonneg (hxaw.take (m + n + 1))
    have h3 := V_lt ha.1
    rw [show a.length = m + n + 1 by omega] at h3
    have h4 := (Int.mul_lt_mul_right hp).2 h3
    have h5 : W (m + n + 1) * x.getD (m + n + 1) 0 < W (m + n + 1) * 2 ^ s := by omega
    exact mul_lt_cancel (W_pos _) h5
  have hstart : V (x.drop m) < V (z.take (n + 2)) := by
    have h1 := V_split_last (x.drop m) (n + 1) (by rw [List.length_drop]; omega)
    have h2 := V_lt ((hxaw.drop m).take (n + 1))
    rw [List.length_take, List.length_drop, Nat.min_eq_left (by omega)] at h2
    have e : (x.drop m).getD (n + 1) 0 = x.getD (m + n + 1) 0 := by
      rw [List.getD_eq_getElem?_getD, List.getElem?_drop, List.getD_eq_getElem?_getD, show m + (n + 1) = m + n + 1 by omega]
    rw [e] at h1
    have h3 := Int.mul_le_mul_of_nonneg_left (show x.getD (m + n + 1) 0 + 1 ≤ (z.take (n + 2)).getD (n + 1) 0 by
      have := pow_le31 hs
      omega) (Int.le_of_lt hW)
    rw [Int.mul_add] at h3
    have h4 := V_nonneg (hyw.take (n + 1))
    omega
  obtain ⟨qs, R, hqs, hqsl, hR, hRl, hRlt, hRv, hev⟩ := long_l0 hyw n hyl hy1 hsu hs (L := x.length) (m := m) hm (by omega) m x (List.replicate m 0) (Nat.le_refl _) hxaw rfl (by simp) hstart
  have hRp : V R = (V a - V qs * V b) * 2 ^ s := by
    rw [hD, hxav] at hRv
    have : (V a - V qs * V b) * 2 ^ s = V a * 2 ^ s - V qs * (V b * 2 ^ s) := by grind
    omega
  have hUv := hun R hR _ hRp
  have hr0 : 0 ≤ V a - V qs * V b := by
    have h1 := V_nonneg hR
    rw [hRp] at h1
    rcases Int.lt_or_le (V a - V qs * V b) 0 with h | h
    · have := Int.mul_lt_mul_of_pos_right h hp
      rw [Int.zero_mul] at this; omega
    · exact h
  have hr1 : V a - V qs * V b < V b := by
    rw [hRp, hD] at hRlt
    exact (Int.mul_lt_mul_right hp).1 hRlt
  have hUw := hunw R hR
  refine ⟨trimL qs, trimL (unshiftT (2 ^ s) (2 ^ (t + 1)) R), ⟨trimL_Wf hqs, trimL_Nrm _, ?_⟩, ⟨trimL_Wf hUw, trimL_Nrm _, ?_⟩, ?_, ?_, ?_⟩
  · have := trimL_len qs; omega
  · have := len_lt_of_V_lt (trimL_Wf hUw) hb.1 (trimL_Nrm _) (by rw [trimL_V]; omega)
    omega
  · rw [trimL_V, trimL_V, hUv]; omega
  · rw [trimL_V, hUv]; exact hr1
  · have E1 := wn (n := (b.length : Int) - 1) (n + 1) (by omega) (by omega)
    have E2 := wn (n := (a.length : Int) - (b.length : Int)) (a.length - b.length) (by omega) (by omega)
    have E3 := wn (n := ((a.length - b.length : Nat) : Int) + 1) m (by omega) (by omega)
    have e4 : wrap64 ((m : Int) - 1) = (m : Int) - 1 := w64 (by omega) (by omega)
    unfold nat_long.f
    simp only [E1.out, E2.out, E3.out, rd_nat, Int.toNat_natCast]
    refine ev_pos (by omega) (ev_pos (by omega) (ev_bindc hlz (ev_bind hxa (ev_bind hxb (ev_pos (by omega) (ev_pos (by omega) (ev_pos (by omega) (ev_pos (by omega) ?_))))))))
    simp only [Option.bind_some, List.length_replicate, e4]
    rw [hn]
    refine ev_eq hev ?_
    rw [List.drop_eq_nil_of_le (by simp), List.append_nil]

/-! ### split, Div -/
theorem clone_f (l : List Int) (h : l.length ≤ 1000000) : api_Nat_uint32.f l = some l := by
  unfold api_Nat_uint32.f
  simp only [Option.bind_some, List.length_nil, List.nil_append]
  rw [if_pos (by omega)]
theorem sgn_neg {x y : Int} : sgn x y < 0 ↔ x < y := by
  unfold sgn
  split
  · simp_all
  · split <;> simp_all
theorem split_f {a b : List Int} (ha : IsNat a) (hb : IsNat b) (hb0 : b ≠ []) :
    ∃ q r, IsNat q ∧ IsNat r ∧ V q * V b + V r = V a ∧ V r < V b ∧ Ev (fun k => nat_split.f k a b) (q, r) := by
  by_cases hlt : V a < V b
  · refine ⟨[], a, ⟨Wf.nil, Nrm.nil, by simp⟩, ha, by simp [V], hlt, ?_⟩
    exact ev_bind (order_f ha hb) (ev_pos (sgn_neg.2 hlt) (ev_bindc (clone_f a (by have := ha.2.2; omega)) (ev_now rfl)))
  · by_cases h1 : b.length = 1
    · obtain ⟨y, rfl⟩ : ∃ y, b = [y] := by
        rcases b with _ | ⟨y, _ | ⟨z, r⟩⟩
        · simp at h1
        · exact ⟨y, rfl⟩
        · simp at h1
      have hy := hb.1.head
      have hy0 : y ≠ 0 := hb.2.1 y (by simp)
      obtain ⟨q, r, hev, hq, hqn, hql, hr0, hr1, hv⟩ := short_f ha.1 (by have := ha.2.2; omega) (b := y) (by omega) hy.2
      obtain ⟨l, hl, hln, hlv, _⟩ := of_f r hr0 (by omega)
      have eV : V [y] = y := by simp [V]
      refine ⟨q, l, ⟨hq, hqn, by have := ha.2.2; omega⟩, hln, by rw [eV, hlv]; exact hv, by rw [eV, hlv]; exact hr1, ?_⟩
      refine ev_bind (order_f ha hb) (ev_neg (fun h => hlt (sgn_neg.1 h)) (ev_pos (by simp) (ev_pos (by simp) ?_)))
      have e : rd [y] 0 = y := by simp [rd]
      simp only [e]
      refine ev_bind hev ?_
      simp only
      rw [u64_in hr0 (by omega)]
      exact ev_bindr hl rfl
    · have h2 : 2 ≤ b.length := by
        have := List.length_pos_iff.2 hb0
        omega
      obtain ⟨q, r, hq, hr, hv, hr1, hev⟩ := long_f ha hb h2 (by omega)
      exact ⟨q, r, hq, hr, hv, hr1, ev_bind (order_f ha hb) (ev_neg (fun h => hlt (sgn_neg.1 h)) (ev_neg (by omega) (ev_bindr hev rfl)))⟩
theorem div_f {a b : List Int} (ha : IsNat a) (hb : IsNat b) (hb0 : b ≠ []) :
    ∃ q r, IsNat q ∧ IsNat r ∧ V q = V a / V b ∧ V r = V a % V b ∧ Ev (fun k => nat_Div.f k a b) (q, r, 0) := by
  obtain ⟨q, r, hq, hr, hv, hlt, hev⟩ := split_f ha hb hb0
  have h0 := V_nonneg hr.1
  have hp := hb.2.1.pos hb.1 hb0
  have hd : V a / V b = V q := by
    rw [← hv, Int.add_comm, Int.add_mul_ediv_right _ _ (by omega), Int.ediv_eq_zero_of_lt h0 hlt]; omega
  have hm : V a % V b = V r := by
    rw [← hv, Int.add_comm, Int.add_mul_emod_self_right, Int.emod_eq_of_lt h0 hlt]
  refine ⟨q, r, hq, hr, hd.symm, hm.symm, ?_⟩
  refine ev_bindc (right_nat ha) (ev_pos rfl (ev_bindc (right_nat hb) ?_))
  first | (refine Ev.step (fun k => nat_Div.j0.eq_2 _ _ _ k) ?_; refine ev_neg (by simp) ?_) | refine ev_pos rfl ?_
  refine ev_neg ?_ (ev_bindr hev rfl)
  have := List.length_pos_iff.2 hb0
  omega

/-! ### Gcd -/
def gcdV (a b : Int) : Int := (Nat.gcd a.toNat b.toNat : Nat)
theorem gcdV_step {a b : Int} (ha : 0 ≤ a) (hb : 0 < b) : gcdV a b = gcdV b (a % b) := by
  unfold gcdV
  rw [Nat.gcd_comm, Nat.gcd_rec, Nat.gcd_comm, Int.toNat_emod ha (by omega)]
theorem gcd_l0 : ∀ (n : Nat) (a b : List Int), IsNat a → IsNat b → V b < n → ∃ g, IsNat g ∧ V g = gcdV (V a) (V b) ∧ Ev (fun k => nat_Gcd.l0 k a b) (g, 0) := by
  intro n
  induction n with
  | zero => intro a b ha hb h; have := V_nonneg hb.1; omega
  | succ n ih =>
    intro a b ha hb h
    by_cases hb0 : b = []
    · subst hb0
      refine ⟨a, ha, ?_, ?_⟩
      · unfold gcdV
        simp only [V, Int.toNat_zero, Nat.gcd_zero_right]
        exact (Int.toNat_of_nonneg (V_nonneg ha.1)).symm
      · refine Ev.step (fun k => nat_Gcd.l0.eq_2 _ _ k) ?_
        exact ev_neg (by simp) (ev_bindc (clone_f a (by have := ha.2.2; omega)) (ev_now rfl))
    · obtain ⟨q, r, hq, hr, hv, hlt, hev⟩ := split_f ha hb hb0
      obtain ⟨g, hg, hgv, hgev⟩ := ih b r hb hr (by omega)
      have hp := hb.2.1.pos hb.1 hb0
      refine ⟨g, hg, ?_, ?_⟩
      · rw [gcdV_step (V_nonneg ha.1) hp, hgv, ← hv, Int.add_comm, Int.add_mul_emod_self_right, Int.emod_eq_of_lt (V_nonneg hr.1) hlt]
      · refine Ev.step (fun k => nat_Gcd.l0.eq_2 _ _ k) ?_
        refine ev_pos ?_ (ev_bind hev hgev)
        have := List.length_pos_iff.2 hb0
        omega
theorem gcd_f {a b : List Int} (ha : IsNat a) (hb : IsNat b) : ∃ g, IsNat g ∧ V g = gcdV (V a) (V b) ∧ Ev (fun k => nat_Gcd.f k a b) (g, 0) := by
  obtain ⟨g, hg, hv, hev⟩ := gcd_l0 ((V b).toNat + 1) a b ha hb (by have := V_nonneg hb.1; omega)
  refine ⟨g, hg, hv, ?_⟩
  refine ev_bindc (right_nat ha) (ev_pos rfl (ev_bindc (right_nat hb) ?_))
  refine Ev.step (fun k => nat_Gcd.j0.eq_2 _ _ _ k) ?_
  exact ev_neg (by simp) hev
end Go.Proofs.YtamhiecepipnjaaDoor.GApproxNear
