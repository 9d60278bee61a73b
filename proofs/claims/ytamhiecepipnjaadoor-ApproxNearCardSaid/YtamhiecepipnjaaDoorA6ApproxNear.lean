/- What the printed functions tell: the long division, split, Div, Gcd. -/
import Derived.Test.YtamhiecepipnjaaDoorA5ApproxNear
namespace Go.Proofs.YtamhiecepipnjaaDoor.GApproxNear
open Go.RowKit Go.Proofs.YtamhiecepipnjaaDoorW.PrintWords Go.Proofs.YtamhiecepipnjaaDoorW.PrintLast Go.Proofs.YtamhiecepipnjaaDoorW.PrintMore Go.Proofs.YtamhiecepipnjaaDoor.Pl
set_option linter.unusedVariables false
set_option linter.unusedSimpArgs false

theorem V_drop (l : List Int) (j n : Nat) (h : j + n ≤ l.length) : V (l.drop j) = V ((l.drop j).take n) + W n * V (l.drop (j + n)) := by
  conv => lhs; rw [← List.take_append_drop n (l.drop j)]
  rw [V_app, List.drop_drop, List.length_take, List.length_drop, Nat.min_eq_left (by omega)]
theorem mul_lt_cancel {w a b : Int} (hw : 0 < w) (h : w * a < w * b) : a < b := (Int.mul_lt_mul_left hw).1 h
/-- What stands above the window is worth nothing. -/
theorem top_zero {x y : List Int} (hx : Wf x) (hy : Wf y) {j n : Nat} (hn : y.length = n + 2) (hj : j + n + 2 < x.length) (hlt : V (x.drop (j + 1)) < V y) : V (x.drop (j + n + 3)) = 0 := by
  have h1 := V_drop x (j + 1) (n + 2) (by omega)
  have h2 := V_lt hy
  have h3 := V_nonneg ((hx.drop (j + 1)).take (n + 2))
  have h4 := V_nonneg (hx.drop (j + n + 3))
  rw [show j + 1 + (n + 2) = j + n + 3 by omega] at h1
  rw [hn] at h2
  have h5 : W (n + 2) * V (x.drop (j + n + 3)) < W (n + 2) * 1 := by rw [Int.mul_one]; clear hx hy; omega
  have := mul_lt_cancel (W_pos _) h5
  omega
theorem guess_f {x y : List Int} (hx : Wf x) (hy : Wf y) (j n : Nat) (hn : y.length = n + 2) (hL : x.length < 4611686018427387904) (hj : j + n + 2 < x.length) (hlt : V (x.drop (j + 1)) < V y) (hy1 : 2147483648 ≤ y.getD (n + 1) 0) :
    ∃ g, Ev (fun k => nat_guess.f k x y (j : Int)) g ∧ 0 ≤ g ∧ g ≤ 4294967295 ∧ (g - 1) * V y ≤ V (x.drop j) ∧ V (x.drop j) < (g + 1) * V y := by
  have hX3 := hx.getD (j + n); have hX2 := hx.getD (j + n + 1); have hX1 := hx.getD (j + n + 2)
  have hY2 := hy.getD n; have hY1 := hy.getD (n + 1)
  have hrest := top_zero hx hy hn hj hlt
  have eN : V (x.drop j) = V ((x.drop j).take n) + W n * (x.getD (j + n) 0 + 4294967296 * (x.getD (j + n + 1) 0 + 4294967296 * x.getD (j + n + 2) 0)) := by
    rw [V_drop x j n (by omega), getD_drop (l := x) (i := j + n) (by omega), getD_drop (l := x) (i := j + n + 1) (by omega), getD_drop (l := x) (i := j + n + 2) (by omega)]
    simp only [V]
    rw [show j + n + 2 + 1 = j + n + 3 by omega, hrest]; simp
  have eD : V y = V (y.take n) + W n * (y.getD n 0 + 4294967296 * y.getD (n + 1) 0) := by
    have := V_drop y 0 n (by omega)
    simp only [List.drop_zero, Nat.zero_add] at this
    rw [this, getD_drop (l := y) (i := n) (by omega), getD_drop (l := y) (i := n + 1) (by omega), List.drop_eq_nil_of_le (by omega)]
    simp only [V]; simp
  have hnl := V_lt ((hx.drop j).take n)
  have hdl := V_lt (hy.take n)
  rw [List.length_take, List.length_drop, Nat.min_eq_left (by omega)] at hnl
  rw [List.length_take, Nat.min_eq_left (by omega)] at hdl
  have hnl0 := V_nonneg ((hx.drop j).take n)
  have hdl0 := V_nonneg (hy.take n)
  have hW := W_pos n
  have hle : x.getD (j + n + 2) 0 ≤ y.getD (n + 1) 0 := by
    have h1 := V_drop x (j + 1) (n + 1) (by omega)
    rw [show j + 1 + (n + 1) = j + n + 2 by omega, getD_drop (l := x) (i := j + n + 2) (by omega)] at h1
    simp only [V] at h1
    rw [show j + n + 2 + 1 = j + n + 3 by omega, hrest] at h1
    have h2 := V_drop y 0 (n + 1) (by omega)
    simp only [List.drop_zero, Nat.zero_add] at h2
    rw [getD_drop (l := y) (i := n + 1) (by omega), List.drop_eq_nil_of_le (by omega)] at h2
    simp only [V] at h2
    have h3 := V_nonneg ((hx.drop (j + 1)).take (n + 1))
    have h4 := V_lt (hy.take (n + 1))
    rw [List.length_take, Nat.min_eq_left (by omega)] at h4
    have h5 : W (n + 1) * x.getD (j + n + 2) 0 < W (n + 1) * (y.getD (n + 1) 0 + 1) := by
      rw [Int.mul_add]
      simp only [Int.mul_zero, Int.add_zero] at h1 h2
      clear hX3 hX2 hX1 hY2 hY1 eN eD hnl hdl hnl0 hdl0
      omega
    have := mul_lt_cancel (W_pos _) h5
    omega
  have hND : V (x.drop j) < 4294967296 * V y := by
    have h1 : V (x.drop j) = x.getD j 0 + 4294967296 * V (x.drop (j + 1)) := by rw [getD_drop (l := x) (i := j) (by omega)]; rfl
    have h2 := hx.getD j
    rw [h1]
    clear eN eD
    omega
  have hN0 := V_nonneg (hx.drop j)
  have hD0 := V_nonneg hy
  have E0 := wn (n := (j : Int) + (y.length : Int)) (j + n + 2) (by omega) (by omega)
  have E1 := wn (n := ((j + n + 2 : Nat) : Int) - 1) (j + n + 1) (by omega) (by omega)
  have E3 := wn (n := (y.length : Int) - 1) (n + 1) (by omega) (by omega)
  have l1 : ((j + n + 2 : Nat) : Int) < (x.length : Int) := by omega
  have l2 : ((j + n + 1 : Nat) : Int) < (x.length : Int) := by omega
  have l3 : ((n + 1 : Nat) : Int) < (y.length : Int) := by omega
  have hfar := fun q r h0 h1 hs ht => guess_not_far (P := W n) (n := V ((x.drop j).take n)) (d := V (y.take n)) (x1 := x.getD (j + n + 2) 0) (x2 := x.getD (j + n + 1) 0) (x3 := x.getD (j + n) 0) (y1 := y.getD (n + 1) 0) (y2 := y.getD n 0) (q := q) (r := r) hW hnl0 hdl0 hdl (by omega) hY2.1 h0 h1 hs ht
  have hgreat := fun q r h0 hs ht => guess_too_great (P := W n) (n := V ((x.drop j).take n)) (d := V (y.take n)) (x1 := x.getD (j + n + 2) 0) (x2 := x.getD (j + n + 1) 0) (x3 := x.getD (j + n) 0) (y1 := y.getD (n + 1) 0) (y2 := y.getD n 0) (q := q) (r := r) hW hnl hdl0 h0 hs ht
  rw [← eN, ← eD] at hfar hgreat
  clear eN eD hnl hdl hnl0 hdl0 hW
  have loop := guess_loop hx hy j n hn hL hj rfl rfl rfl hX3 hX2 hY2 ⟨hy1, hY1.2⟩ ⟨hX1.1, hle⟩ hN0 hD0 hND hfar hgreat
  unfold nat_guess.f
  simp only [E0.out, E1.out, E3.out, rd_nat]
  generalize V (x.drop j) = N at *
  generalize V y = D at *
  generalize x.getD (j + n + 2) 0 = x1 at *
  generalize x.getD (j + n + 1) 0 = x2 at *
  generalize x.getD (j + n) 0 = x3 at *
  generalize y.getD (n + 1) 0 = y1 at *
  generalize y.getD n 0 = y2 at *
  clear hrest hlt
  have hq0 : 0 ≤ (x1 * 4294967296 + x2) / y1 := Int.ediv_nonneg (by omega) (by omega)
  have hsum := Int.mul_ediv_add_emod (x1 * 4294967296 + x2) y1
  have hr0 := Int.emod_nonneg (x1 * 4294967296 + x2) (show y1 ≠ 0 by omega)
  have hr1 := Int.emod_lt_of_pos (x1 * 4294967296 + x2) (show 0 < y1 by omega)
  have hq1 : (x1 * 4294967296 + x2) / y1 ≤ 4294967297 := by
    have : (x1 * 4294967296 + x2) / y1 < 4294967298 := Int.ediv_lt_of_lt_mul (by omega) (by omega)
    omega
  have ew : IntKind.u64.wrap (Int.tdiv (Go.bits .or .u64 (IntKind.u64.wrap ((IntKind.u64.wrap x1) * 4294967296)) (IntKind.u64.wrap x2)) (IntKind.u64.wrap y1)) = (x1 * 4294967296 + x2) / y1 := by
    rw [u64_in (n := x1) (by omega) (by omega), u64_in (n := x2) (by omega) (by omega), u64_in (n := y1) (by omega) (by omega), u64_in (n := x1 * 4294967296) (by omega) (by omega), join64 hX1.1 hX1.2 hX2.1 hX2.2, Int.tdiv_eq_ediv_of_nonneg (by omega), u64_in hq0 (by omega)]
  have em : Int.tmod (Go.bits .or .u64 (IntKind.u64.wrap ((IntKind.u64.wrap x1) * 4294967296)) (IntKind.u64.wrap x2)) (IntKind.u64.wrap y1) = (x1 * 4294967296 + x2) % y1 := by
    rw [u64_in (n := x1) (by omega) (by omega), u64_in (n := x2) (by omega) (by omega), u64_in (n := y1) (by omega) (by omega), u64_in (n := x1 * 4294967296) (by omega) (by omega), join64 hX1.1 hX1.2 hX2.1 hX2.2, Int.tmod_eq_emod_of_nonneg (by omega)]
  rw [ew, em]
  have ey : IntKind.u64.wrap y1 = y1 := u64_in (by omega) (by omega)
  rw [ey]
  clear ew em ey
  generalize (x1 * 4294967296 + x2) / y1 = q at *
  generalize (x1 * 4294967296 + x2) % y1 = r at *
  have hs2 : q * y1 + r = x1 * 4294967296 + x2 := by rw [← hsum]; grind
  have hub : N < (q + 1) * D := by
    refine hgreat (q + 1) (r - y1) (by omega) ?_ ?_
    · have : (q + 1) * y1 = q * y1 + y1 := by grind
      omega
    · have : 0 ≤ (q + 1) * y2 := Int.mul_nonneg (by omega) hY2.1
      omega
  obtain ⟨g, hg, h⟩ := loop q.toNat q r (by omega) hq1 hr0 (by omega) hs2 hub
  refine ⟨g, ?_, h⟩
  exact ev_pos (Int.natCast_nonneg _) (ev_pos l1 (ev_pos (Int.natCast_nonneg _) (ev_pos l2 (ev_pos (Int.natCast_nonneg _) (ev_pos l3 (ev_neg (by omega) hg))))))

/-! ### One digit of the quotient -/
theorem digit_f {x y : List Int} (hx : Wf x) (hy : Wf y) (j n : Nat) (hn : y.length = n + 2) (hL : x.length < 4611686018427387904) (hj : j + n + 2 < x.length) (hlt : V (x.drop (j + 1)) < V y) (hy1 : 2147483648 ≤ y.getD (n + 1) 0) :
    ∃ g t qd x2, Ev (fun k => nat_guess.f k x y (j : Int)) g ∧ Ev (fun k => nat_take.f k x y (j : Int) g) t ∧ (t.1 = true → Ev (fun k => nat_give.f k t.2 y (j : Int)) x2 ∧ qd = IntKind.u64.wrap (g - 1) % 4294967296) ∧ (t.1 = false → t.2 = x2 ∧ qd = g % 4294967296) ∧
      0 ≤ qd ∧ qd < 4294967296 ∧ Wf x2 ∧ x2.length = x.length ∧ x2.take j = x.take j ∧ V (x2.drop j) < V y ∧ V (x2.drop j) + qd * V y = V (x.drop j) := by
  obtain ⟨g, hg, hg0, hg1, hlo, hhi⟩ := guess_f hx hy j n hn hL hj hlt hy1
  have hrest := top_zero hx hy hn hj hlt
  have htk := take_f hx hy j (q := g) ⟨hg0, by omega⟩ hL (by omega)
  have hwl : ((x.drop j).take (y.length + 1)).length = y.length + 1 := by rw [List.length_take, List.length_drop]; omega
  have hV := tkT_V (q := g) ⟨hg0, by omega⟩ hy ((hx.drop j).take (y.length + 1)) hwl (v := 0) (o := 0) (by omega) (by omega)
  have hTl := tkT_len g y ((x.drop j).take (y.length + 1)) 0 0
  have hTw := tkT_Wf g y ((x.drop j).take (y.length + 1)) 0 0
  have hsg := tkT_sign g y ((x.drop j).take (y.length + 1)) 0 0
  generalize tkT g y ((x.drop j).take (y.length + 1)) 0 0 = T at *
  have hNw : V (x.drop j) = V ((x.drop j).take (y.length + 1)) := by
    rw [V_drop x j (y.length + 1) (by omega), hn, show j + (n + 2 + 1) = j + n + 3 by omega, hrest, Int.mul_zero, Int.add_zero]
  rw [← hNw] at hV
  have hrest2 : V (x.drop (j + y.length + 1)) = 0 := by rw [hn, show j + (n + 2) + 1 = j + n + 3 by omega]; exact hrest
  have hjl : (x.take j).length = j := by rw [List.length_take]; omega
  have after : ∀ R : List Int, R.length = y.length + 1 → (x.take j ++ R ++ x.drop (j + y.length + 1)).drop j = R ++ x.drop (j + y.length + 1) := by
    intro R hR
    rw [List.append_assoc, List.drop_append_of_le_length (by omega), List.drop_of_length_le (by omega), List.nil_append]
  have before : ∀ R : List Int, (x.take j ++ R ++ x.drop (j + y.length + 1)).take j = x.take j := by
    intro R
    rw [List.append_assoc, List.take_append_of_le_length (by omega), List.take_of_length_le (by omega)]
  have worth : ∀ R : List Int, V (R ++ x.drop (j + y.length + 1)) = V R := by
    intro R
    rw [V_app, hrest2, Int.mul_zero, Int.add_zero]
  have long : ∀ R : List Int, R.length = y.length + 1 → (x.take j ++ R ++ x.drop (j + y.length + 1)).length = x.length := by
    intro R hR
    simp only [List.length_append, List.length_take, List.length_drop, hR]; omega
  have hW := W_pos (y.length + 1)
  have hT0 := V_nonneg hTw
  have hT1 := V_lt hTw
  rw [hTl] at hT1
  rcases hsg with hs | hs
  · rw [hs, Int.mul_zero] at hV
    have e1 : (g + 1) * V y = g * V y + V y := by grind
    refine ⟨g, _, g, _, hg, htk, fun h => ?_, fun _ => ⟨rfl, by omega⟩, hg0, by omega, (((hx.take j).append hTw).append (hx.drop _)), long _ hTl, before _, ?_, ?_⟩
    · rw [hs] at h; simp at h
    · rw [after _ hTl, worth]; omega
    · rw [after _ hTl, worth]; omega
  · rw [hs] at hV
    have hx' : Wf (x.take j ++ T.1 ++ x.drop (j + y.length + 1)) := ((hx.take j).append hTw).append (hx.drop _)
    have hgv := give_f hx' hy j (by rw [long _ hTl]; exact hL) (by rw [long _ hTl]; omega)
    have e2 : ((x.take j ++ T.1 ++ x.drop (j + y.length + 1)).drop j).take (y.length + 1) = T.1 := by
      rw [after _ hTl, List.take_append_of_le_length (by omega), List.take_of_length_le (by omega)]
    rw [e2, before] at hgv
    have e3 : (x.take j ++ T.1 ++ x.drop (j + y.length + 1)).drop (j + y.length + 1) = x.drop (j + y.length + 1) := by
      have : j + y.length + 1 = (x.take j ++ T.1).length := by rw [List.length_append, hjl, hTl]; omega
      rw [List.drop_append_of_le_length (by omega), List.drop_of_length_le (by omega), List.nil_append]
    rw [e3] at hgv
    obtain ⟨c, hc, hGV⟩ := giveT_V (b := y) (w := T.1) (v := 0) hy hTw hTl (by omega)
    have hGl := giveT_len y T.1 0
    have hGw := giveT_Wf y T.1 0
    have hG1 := V_lt hGw
    rw [hGl] at hG1
    have hG0 := V_nonneg hGw
    generalize giveT y T.1 0 = G at *
    have hD0 := V_nonneg hy
    have e4 : (g - 1) * V y = g * V y - V y := by grind
    have e5 : W (y.length + 1) * -1 = - W (y.length + 1) := by grind
    have hc1 : c = 1 := by
      rcases hc with hc | hc
      · rw [hc, Int.mul_zero] at hGV; omega
      · exact hc
    rw [hc1, Int.mul_one] at hGV
    have hgpos : 1 ≤ g := by
      rcases Int.lt_or_le g 1 with h | h
      · obtain rfl : g = 0 := by omega
        rw [Int.zero_mul] at *
        have := V_nonneg (hx.drop j)
        omega
      · exact h
    refine ⟨g, _, g - 1, _, hg, htk, fun _ => ⟨hgv, ?_⟩, fun h => ?_, by omega, by omega, (((hx.take j).append hGw).append (hx.drop _)), long _ hGl, before _, ?_, ?_⟩
    · rw [u64_in (by omega) (by omega)]; omega
    · rw [hs] at h; simp at h
    · rw [after _ hGl, worth]; omega
    · rw [after _ hGl, worth]; omega

/-! ### The long division -/
theorem long_l0 {y : List Int} (hy : Wf y) (n : Nat) (hn : y.length = n + 2) (hy1 : 2147483648 ≤ y.getD (n + 1) 0) {s u : Nat} (hsu : s + u = 32) (hs : s ≤ 31) {L m : Nat} (hL : L = m + n + 2) (hL1 : L ≤ 1000000) :
    ∀ (j : Nat) (x out : List Int), j ≤ m → Wf x → x.length = L → out.length = m → V (x.drop j) < V y →
      ∃ qs R, Wf qs ∧ qs.length = j ∧ Wf R ∧ R.length = L ∧ V R < V y ∧ V qs * V y + V R = V x ∧ Ev (fun k => nat_long.l0 k (s : Int) x y out ((j : Int) - 1)) (trimL (qs ++ out.drop j), trimL (unshiftT (2 ^ s) (2 ^ u) R)) := by
  intro j
  induction j with
  | zero =>
    intro x out hjm hx hxl ho hlt
    refine ⟨[], x, Wf.nil, rfl, hx, hxl, by simpa using hlt, by simp [V], ?_⟩
    refine Ev.step (fun k => nat_long.l0.eq_2 _ _ _ _ _ k) ?_
    refine ev_neg (by omega) (ev_bind (trim_f out (by omega)) (ev_bind (unshift_f hx (by omega) hsu hs) (ev_bindr (trim_f _ (by rw [unshiftT_len]; omega)) ?_)))
    simp
  | succ j ih =>
    intro x out hjm hx hxl ho hlt
    obtain ⟨g, t, qd, x2, hg, ht, htt, htf, hq0, hq1, hx2, hx2l, hx2t, hx2lt, hx2v⟩ := digit_f hx hy j n hn (by omega) (by omega) hlt hy1
    obtain ⟨qs, R, hqs, hqsl, hR, hRl, hRlt, hRv, hev⟩ := ih x2 (out.set j qd) (by omega) hx2 (by omega) (by simpa using ho) hx2lt
    have E := wn (n := (((j + 1 : Nat) : Int) - 1)) j (by omega) (by omega)
    have e0 : (((j + 1 : Nat) : Int) - 1) = (j : Int) := by omega
    have e1 : wrap64 ((j : Int) - 1) = (j : Int) - 1 := w64 (by omega) (by omega)
    refine ⟨qs ++ [qd], R, hqs.append (Wf.cons hq0 hq1 Wf.nil), by simp [hqsl], hR, hRl, hRlt, ?_, ?_⟩
    · rw [V_app, hqsl]
      simp only [V, Int.mul_zero, Int.add_zero]
      have h1 : V x = V (x.take j) + W j * V (x.drop j) := by
        have := V_drop x 0 j (by omega)
        simpa using this
      have h2 : V x2 = V (x2.take j) + W j * V (x2.drop j) := by
        have := V_drop x2 0 j (by omega)
        simpa using this
      rw [h1, ← hx2v, ← hx2t]
      rw [h2] at hRv
      have e3 : (V qs + W j * qd) * V y = V qs * V y + W j * (qd * V y) := by grind
      have e4 : W j * (V (x2.drop j) + qd * V y) = W j * V (x2.drop j) + W j * (qd * V y) := by grind
      rw [e3, e4]; omega
    · refine Ev.step (fun k => nat_long.l0.eq_2 _ _ _ _ _ k) ?_
      simp only [e0, e1, Int.toNat_natCast]
      refine ev_pos (by omega) (ev_bind hg (ev_bind ht ?_))
      have hfin : trimL (qs ++ (out.set j qd).drop j) = trimL (qs ++ [qd] ++ out.drop (j + 1)) := by
        rw [List.drop_eq_getElem_cons (by rw [List.length_set]; omega), drop_set]; simp
      rw [← hfin]
      cases hb : t.1 with
      | true =>
        obtain ⟨hgv, hqd⟩ := htt hb
        rw [hqd] at hev
        exact ev_pos rfl (ev_bind hgv (ev_pos (by omega) (ev_pos (by omega) (hqd ▸ hev))))
      | false =>
        obtain ⟨hgv, hqd⟩ := htf hb
        refine ev_neg (by simp) (ev_pos (by omega) (ev_pos (by omega) ?_))
        rw [hgv, ← hqd]; exact hev
end Go.Proofs.YtamhiecepipnjaaDoor.GApproxNear
