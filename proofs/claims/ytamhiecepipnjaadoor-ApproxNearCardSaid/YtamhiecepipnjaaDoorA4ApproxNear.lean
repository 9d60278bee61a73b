/- What the printed functions of nat tell: times, Mul, short, and the parts of the long division. -/
import Derived.Test.YtamhiecepipnjaaDoorA3ApproxNear
namespace Go.Proofs.YtamhiecepipnjaaDoor.GApproxNear
open Go.RowKit Go.Proofs.YtamhiecepipnjaaDoorW.PrintWords Go.Proofs.YtamhiecepipnjaaDoorW.PrintLast Go.Proofs.YtamhiecepipnjaaDoorW.PrintMore Go.Proofs.YtamhiecepipnjaaDoor.Pl
set_option linter.unusedVariables false
set_option linter.unusedSimpArgs false

/-! ### times, Mul -/
theorem times_l1 {b : List Int} (hb : Wf b) (xs : List Int) (hm : xs.length < 4611686018427387904) (x : Int) (hx : 0 ≤ x ∧ x < 4294967296) (i : Nat) (P : List Int → Prop) {R : List Int} {L : Nat} (hL : L < 4611686018427387904)
    (hib : i + b.length < L) (hcont : ∀ o, o.length = L → P o → Ev (fun k => nat_times.l0 k b o xs (xs.length : Int) ((i + 1 : Nat) : Int)) R) (hi : i < xs.length) :
    ∀ (d m : Nat) (out : List Int) (c : Int), m + d = b.length → out.length = L → Wf out → 0 ≤ c ∧ c < 4294967296 → P (out.take (i + m) ++ rowT x (b.drop m) (out.drop (i + m)) c) →
      Ev (fun k => nat_times.l1 k b out (i : Int) x c xs (xs.length : Int) (i : Int) b (b.length : Int) (m : Int)) R := by
  intro d
  induction d with
  | zero =>
    intro m out c hd ho hw hc hP
    obtain rfl : m = b.length := by omega
    refine Ev.step (fun k => nat_times.l1.eq_2 _ _ _ _ _ _ _ _ _ _ _ k) ?_
    have e1 : wrap64 ((i : Int) + (b.length : Int)) = ((i + b.length : Nat) : Int) := by rw [w64 (by omega) (by omega)]; omega
    have e2 : wrap64 ((i : Int) + 1) = ((i + 1 : Nat) : Int) := by rw [w64 (by omega) (by omega)]; omega
    have e3 : c % 4294967296 = c := by omega
    simp only [e1, e2, e3, Int.toNat_natCast]
    refine ev_neg (by omega) (ev_pos (by omega) (ev_pos (by omega) (hcont _ (by simpa using ho) ?_)))
    rw [List.drop_length, rowT, tail_drop] at hP
    have : out.set (i + b.length) c = out.take (i + b.length) ++ c :: out.drop (i + b.length + 1) := by rw [List.set_eq_take_append_cons_drop, if_pos (by omega)]
    rw [this]; exact hP
  | succ d ih =>
    intro m out c hd ho hw hc hP
    refine Ev.step (fun k => nat_times.l1.eq_2 _ _ _ _ _ _ _ _ _ _ _ k) ?_
    have e1 : wrap64 ((i : Int) + (m : Int)) = ((i + m : Nat) : Int) := by rw [w64 (by omega) (by omega)]; omega
    have e2 : wrap64 ((m : Int) + 1) = ((m + 1 : Nat) : Int) := by rw [w64 (by omega) (by omega)]; omega
    refine ev_pos (by omega) ?_
    refine ev_pos (Int.natCast_nonneg _) ?_
    refine ev_pos (by omega) ?_
    simp only [e1, e2, Int.toNat_natCast, rd_nat]
    refine ev_pos (by clear hc hx; omega) ?_
    refine ev_pos (by clear hc hx; omega) ?_
    have hB := hb.getD m; have hO := hw.getD (i + m)
    have hbd := rowT_bound hx hB hO hc
    have hmb := mul_bound hx.1 (by omega) hB.1 (show b.getD m 0 ≤ 4294967295 by omega)
    rw [u64_in (n := x) (by omega) (by omega), u64_in (n := b.getD m 0) (by omega) (by omega), u64_in (n := out.getD (i + m) 0) (by omega) (by omega), u64_in (n := x * b.getD m 0) (by omega) (by omega),
      u64_in (n := x * b.getD m 0 + out.getD (i + m) 0) (by omega) (by omega), u64_in (n := c + (x * b.getD m 0 + out.getD (i + m) 0)) (by omega) (by omega)]
    refine ih (m + 1) _ _ (by omega) (by simpa using ho) ?_ ⟨hbd.2.2.1, hbd.2.2.2⟩ ?_
    · intro y hy
      rcases List.mem_or_eq_of_mem_set hy with h | rfl
      · exact hw y h
      · omega
    · rw [show i + (m + 1) = i + m + 1 by omega, take_set _ _ _ (by omega), drop_set, List.append_assoc]
      rw [getD_drop (l := b) (i := m) (by omega), rowT, headD_drop, tail_drop] at hP
      exact hP
theorem times_l0 {a b : List Int} (ha : Wf a) (hb : Wf b) {L : Nat} (hL : L < 4611686018427387904) (hl : a.length + b.length = L) : ∀ (d i : Nat) (out : List Int), i + d = a.length → out.length = L → Wf out →
    Ev (fun k => nat_times.l0 k b out a (a.length : Int) (i : Int)) (trimL (out.take i ++ mulT (a.drop i) b (out.drop i))) := by
  intro d
  induction d with
  | zero =>
    intro i out hi ho hw
    refine Ev.step (fun k => nat_times.l0.eq_2 _ _ _ _ _ k) ?_
    refine ev_neg (by omega) (ev_bindr (trim_f out (by omega)) ?_)
    rw [List.drop_eq_nil_of_le (show a.length ≤ i by omega), mulT, List.take_append_drop]
  | succ d ih =>
    intro i out hi ho hw
    refine Ev.step (fun k => nat_times.l0.eq_2 _ _ _ _ _ k) ?_
    refine ev_pos (by omega) (ev_pos (by omega) (ev_pos (by omega) ?_))
    rw [rd_nat]
    have hA := ha.getD i
    have hlen := rowT_len (a.getD i 0) b (out.drop i) 0 (by rw [List.length_drop]; omega)
    have hwf := rowT_Wf hA hb (hw.drop i) (c := 0) (by omega)
    refine times_l1 hb a (by omega) _ hA i (fun o => o = out.take i ++ rowT (a.getD i 0) b (out.drop i) 0) hL (by omega) ?_ (by omega) b.length 0 out 0 (by omega) ho hw (by omega) (by simp)
    rintro o ho2 rfl
    refine ev_eq (ih (i + 1) _ (by omega) ho2 (Wf.append (hw.take i) hwf)) ?_
    rw [getD_drop (l := a) (i := i) (by omega), mulT]
    have h1 : (out.take i).length = i := by rw [List.length_take]; omega
    generalize hr : rowT (a.getD i 0) b (out.drop i) 0 = r at *
    rcases r with _ | ⟨z, r⟩
    · rw [List.length_drop] at hlen; simp at hlen; omega
    · rw [show i + 1 = (out.take i).length + 1 by omega, List.take_length_add_append, List.drop_length_add_append]
      simp [h1]
theorem times_f {a b : List Int} (ha : Wf a) (hb : Wf b) (la : a.length ≤ 1000000) (lb : b.length ≤ 1000000) :
    ∃ r, Ev (fun k => nat_times.f k a b) r ∧ Wf r ∧ Nrm r ∧ V r = V a * V b ∧ r.length ≤ a.length + b.length := by
  have e : wrap64 ((a.length : Int) + (b.length : Int)) = ((a.length + b.length : Nat) : Int) := by rw [w64 (by omega) (by omega)]; omega
  have h := times_l0 ha hb (L := a.length + b.length) (by omega) rfl a.length 0 (List.replicate (a.length + b.length) 0) (by omega) (by simp) (Wf.replicate _)
  refine ⟨_, ?_, trimL_Wf (mulT_Wf ha hb (Wf.replicate (a.length + b.length))), trimL_Nrm _, ?_, ?_⟩
  · unfold nat_times.f
    simp only [e, Int.toNat_natCast]
    refine ev_pos (by omega) (ev_pos (by omega) (ev_eq h ?_))
    simp
  · rw [trimL_V, mulT_V, V_zeros]
    · omega
    · intro j _
      rw [List.getD_eq_getElem?_getD]
      rcases Nat.lt_or_ge j (a.length + b.length) with h1 | h1
      · rw [List.getElem?_replicate_of_lt h1]; rfl
      · rw [List.getElem?_eq_none (by simpa using h1)]; rfl
  · have := trimL_len (mulT a b (List.replicate (a.length + b.length) 0))
    rwa [mulT_len _ _ _ (by simp), List.length_replicate] at this
theorem mul_f {a b : List Int} (ha : IsNat a) (hb : IsNat b) : ∃ r, Wf r ∧ Nrm r ∧ V r = V a * V b ∧ Ev (fun k => nat_Mul.f k a b) (if r.length > 64 then ([], 6) else (r, 0)) := by
  obtain ⟨r, hr, hw, hn, hv, hl⟩ := times_f ha.1 hb.1 (by have := ha.2.2; omega) (by have := hb.2.2; omega)
  refine ⟨r, hw, hn, hv, ?_⟩
  refine ev_bindc (right_nat ha) (ev_pos rfl (ev_bindc (right_nat hb) ?_))
  first | (refine Ev.step (fun k => nat_Mul.j0.eq_2 _ _ _ k) ?_; refine ev_neg (by simp) ?_) | refine ev_pos rfl ?_
  refine ev_bind hr ?_
  rw [kept_f]
  split
  · exact ev_now rfl
  · exact ev_now rfl

/-! ### short -/
theorem short_l0 {a : List Int} (ha : Wf a) (hm : a.length < 4611686018427387904) {b : Int} (hb : 0 < b) (hb1 : b < 4294967296) : ∀ (n : Nat) (out : List Int) (r : Int), n ≤ a.length → out.length = a.length → 0 ≤ r → r < b →
    Ev (fun k => nat_short.l0 k a b out r ((n : Int) - 1)) (trimL ((shortT b (a.take n) r).1 ++ out.drop n), (shortT b (a.take n) r).2) := by
  intro n
  induction n with
  | zero =>
    intro out r hn ho h0 h1
    refine Ev.step (fun k => nat_short.l0.eq_2 _ _ _ _ _ k) ?_
    refine ev_neg (by omega) (ev_bindr (trim_f out (by omega)) ?_)
    simp [shortT]; omega
  | succ n ih =>
    intro out r hn ho h0 h1
    refine Ev.step (fun k => nat_short.l0.eq_2 _ _ _ _ _ k) ?_
    have e0 : (((n + 1 : Nat) : Int) - 1) = (n : Int) := by omega
    have e : wrap64 ((n : Int) - 1) = (n : Int) - 1 := by rw [w64 (by omega) (by omega)]
    have hA := ha.getD n
    have hs := step_bound hb h0 h1 hA
    simp only [e0, e, rd_nat, Int.toNat_natCast]
    rw [u64_in (n := b) (by omega) (by omega), u64_in (n := a.getD n 0) (by omega) (by omega), u64_in (n := r * 4294967296) (by omega) (by omega), join64 h0 (by omega) hA.1 hA.2,
      Int.tdiv_eq_ediv_of_nonneg (by omega), Int.tmod_eq_emod_of_nonneg (by omega), u64_in (n := (r * 4294967296 + a.getD n 0) / b) (by omega) (by omega)]
    refine ev_pos (by omega) (ev_pos (by omega) (ev_pos (by omega) (ev_neg (by omega) (ev_pos (by omega) ?_))))
    refine ev_eq (ih _ _ (by omega) (by simpa using ho) (Int.emod_nonneg _ (by omega)) (Int.emod_lt_of_pos _ hb)) ?_
    have h2 : (r * 4294967296 + a.getD n 0) / b % 4294967296 = (r * 4294967296 + a.getD n 0) / b := by omega
    rw [take_snoc (show n < a.length by omega), shortT_snoc, h2]
    have h3 : ∀ v, (out.set n v).drop n = v :: out.drop (n + 1) := fun v => by
      rw [List.drop_eq_getElem_cons (by simpa using (by omega : n < out.length)), drop_set]; simp
    rw [h3]; simp
theorem short_f {a : List Int} (ha : Wf a) (la : a.length ≤ 1000000) {b : Int} (hb : 0 < b) (hb1 : b < 4294967296) :
    ∃ q r, Ev (fun k => nat_short.f k a b) (q, r) ∧ Wf q ∧ Nrm q ∧ q.length ≤ a.length ∧ 0 ≤ r ∧ r < b ∧ V q * b + r = V a := by
  have h := short_l0 ha (by omega) hb hb1 a.length (List.replicate a.length 0) 0 (Nat.le_refl _) (by simp) (by omega) hb
  rw [List.take_length] at h
  have hr := shortT_rest hb (a := a) (r := 0) (by omega) hb
  refine ⟨_, _, ?_, trimL_Wf (shortT_Wf hb ha (r := 0) (by omega) hb), trimL_Nrm _, ?_, hr.1, hr.2, ?_⟩
  · unfold nat_short.f
    have e : wrap64 ((a.length : Int) - 1) = (a.length : Int) - 1 := by rw [w64 (by omega) (by omega)]
    simp only [Int.toNat_natCast, e]
    refine ev_pos (by omega) (ev_pos (by omega) (ev_eq h ?_))
    simp
  · have := trimL_len (shortT b a 0).1
    rwa [shortT_len] at this
  · rw [trimL_V]; exact shortT_V hb a

/-! ### take, give -/
theorem tkT_take (q : Int) : ∀ b w v o, tkT q b (w.take (b.length + 1)) v o = tkT q b w v o
  | [], w, v, o => by cases w <;> simp [tkT]
  | y :: b, w, v, o => by
    rcases w with _ | ⟨x, w⟩
    · simp
    · simp only [tkT, List.length_cons, List.take_succ_cons, List.headD_cons, List.tail_cons]
      rw [tkT_take q b w]
theorem giveT_take : ∀ b w v, giveT b (w.take (b.length + 1)) v = giveT b w v
  | [], w, v => by cases w <;> simp [giveT]
  | y :: b, w, v => by
    rcases w with _ | ⟨x, w⟩
    · simp
    · simp only [giveT, List.length_cons, List.take_succ_cons, List.headD_cons, List.tail_cons]
      rw [giveT_take b w]
theorem owe_top {n : Int} (h0 : -8589934592 ≤ n) (h1 : n < 4294967296) : n % 18446744073709551616 / 9223372036854775808 = owe n := by
  have := owe_is n
  omega
theorem take_l0 {y : List Int} (hy : Wf y) (j : Nat) {q : Int} (hq : 0 ≤ q ∧ q < 4294967296) {L : Nat} (hL : L < 4611686018427387904) (hj : j + y.length < L) : ∀ (d i : Nat) (x : List Int) (v o : Int), i + d = y.length → x.length = L → Wf x → 0 ≤ v ∧ v < 4294967296 → 0 ≤ o ∧ o ≤ 1 →
    Ev (fun k => nat_take.l0 k x y (j : Int) q v o (y.length : Int) (i : Int)) (decide ((tkT q (y.drop i) (x.drop (j + i)) v o).2 ≠ 0), x.take (j + i) ++ (tkT q (y.drop i) (x.drop (j + i)) v o).1 ++ x.drop (j + y.length + 1)) := by
  intro d
  induction d with
  | zero =>
    intro i x v o hd hx hw hv ho
    obtain rfl : i = y.length := by omega
    refine Ev.step (fun k => nat_take.l0.eq_2 _ _ _ _ _ _ _ _ k) ?_
    have e1 : wrap64 ((j : Int) + (y.length : Int)) = ((j + y.length : Nat) : Int) := by rw [w64 (by omega) (by omega)]; omega
    have hA := hw.getD (j + y.length)
    refine ev_neg (by omega) ?_
    simp only [e1, Int.toNat_natCast, rd_nat]
    rw [u64_in (n := x.getD (j + y.length) 0) (by omega) (by omega), u64_mod (x.getD (j + y.length) 0 - v), u64_mod]
    have hd2 : ((x.getD (j + y.length) 0 - v) % 18446744073709551616 - o) % 18446744073709551616 = (x.getD (j + y.length) 0 - v - o) % 18446744073709551616 := by omega
    rw [hd2]
    refine ev_pos (by omega) (ev_pos (by omega) (ev_now ?_))
    rw [List.drop_length, tkT, headD_drop, owe_top (by omega) (by omega)]
    have hm : (x.getD (j + y.length) 0 - v - o) % 18446744073709551616 % 4294967296 = (x.getD (j + y.length) 0 - v - o) % 4294967296 := by omega
    rw [hm]
    congr 1
    · have := owe_is (x.getD (j + y.length) 0 - v - o)
      rcases this with ⟨_, h⟩ | ⟨_, h⟩ <;> rw [h] <;> simp
    · rw [List.set_eq_take_append_cons_drop, if_pos (by omega)]; simp
  | succ d ih =>
    intro i x v o hd hx hw hv ho
    refine Ev.step (fun k => nat_take.l0.eq_2 _ _ _ _ _ _ _ _ k) ?_
    have e1 : wrap64 ((j : Int) + (i : Int)) = ((j + i : Nat) : Int) := by rw [w64 (by omega) (by omega)]; omega
    have e2 : wrap64 ((i : Int) + 1) = ((i + 1 : Nat) : Int) := by rw [w64 (by omega) (by omega)]; omega
    refine ev_pos (by omega) ?_
    refine ev_pos (Int.natCast_nonneg _) ?_
    refine ev_pos (by omega) ?_
    simp only [e1, e2, Int.toNat_natCast, rd_nat]
    refine ev_pos (by clear hq hv ho; omega) ?_
    refine ev_pos (by clear hq hv ho; omega) ?_
    have hA := hw.getD (j + i); have hB := hy.getD i
    have hbd := tkT_bound hq hB hv
    have hmb := mul_bound hq.1 (by omega) hB.1 (show y.getD i 0 ≤ 4294967295 by omega)
    rw [u64_in (n := y.getD i 0) (by omega) (by omega), u64_in (n := q * y.getD i 0) (by omega) (by omega), u64_in (n := v + q * y.getD i 0) (by omega) (by omega), u64_in (n := x.getD (j + i) 0) (by omega) (by omega),
      u64_mod (x.getD (j + i) 0 - _), u64_mod]
    generalize hs : v + q * y.getD i 0 = s at *
    have hd2 : ((x.getD (j + i) 0 - s % 4294967296) % 18446744073709551616 - o) % 18446744073709551616 = (x.getD (j + i) 0 - s % 4294967296 - o) % 18446744073709551616 := by omega
    have hm : (x.getD (j + i) 0 - s % 4294967296 - o) % 18446744073709551616 % 4294967296 = (x.getD (j + i) 0 - s % 4294967296 - o) % 4294967296 := by omega
    rw [hd2, hm, owe_top (by omega) (by omega)]
    have ho2 := owe_is (x.getD (j + i) 0 - s % 4294967296 - o)
    refine ev_eq (ih (i + 1) _ _ _ (by omega) (by simpa using hx) ?_ ⟨hbd.2.2.1, hbd.2.2.2⟩ (by omega)) ?_
    · intro z hz
      rcases List.mem_or_eq_of_mem_set hz with h | rfl
      · exact hw z h
      · omega
    · rw [show j + (i + 1) = j + i + 1 by omega, take_set _ _ _ (by omega), drop_set, getD_drop (l := y) (i := i) (by omega)]
      simp only [tkT, headD_drop, tail_drop, hs]
      have h5 : ∀ z, (x.set (j + i) z).drop (j + y.length + 1) = x.drop (j + y.length + 1) := fun z => List.drop_set_of_lt (by omega)
      rw [h5]
      simp
theorem take_f {x y : List Int} (hx : Wf x) (hy : Wf y) (j : Nat) {q : Int} (hq : 0 ≤ q ∧ q < 4294967296) (hL : x.length < 4611686018427387904) (hj : j + y.length < x.length) :
    Ev (fun k => nat_take.f k x y (j : Int) q) (decide ((tkT q y ((x.drop j).take (y.length + 1)) 0 0).2 ≠ 0), x.take j ++ (tkT q y ((x.drop j).take (y.length + 1)) 0 0).1 ++ x.drop (j + y.length + 1)) := by
  have := take_l0 hy j hq hL hj y.length 0 x 0 0 (by omega) rfl hx (by omega) (by omega)
  rw [tkT_take]
  unfold nat_take.f
  simpa using this
theorem give_l0 {y : List Int} (hy : Wf y) (j : Nat) {L : Nat} (hL : L < 4611686018427387904) (hj : j + y.length < L) : ∀ (d i : Nat) (x : List Int) (v : Int), i + d = y.length → x.length = L → Wf x → 0 ≤ v ∧ v ≤ 1 →
    Ev (fun k => nat_give.l0 k x y (j : Int) v (y.length : Int) (i : Int)) (x.take (j + i) ++ giveT (y.drop i) (x.drop (j + i)) v ++ x.drop (j + y.length + 1)) := by
  intro d
  induction d with
  | zero =>
    intro i x v hd hx hw hv
    obtain rfl : i = y.length := by omega
    refine Ev.step (fun k => nat_give.l0.eq_2 _ _ _ _ _ _ k) ?_
    have e1 : wrap64 ((j : Int) + (y.length : Int)) = ((j + y.length : Nat) : Int) := by rw [w64 (by omega) (by omega)]; omega
    simp only [e1, Int.toNat_natCast, rd_nat]
    refine ev_neg (by omega) (ev_pos (by omega) (ev_pos (by omega) (ev_now ?_)))
    rw [List.drop_length, giveT, headD_drop, show v % 4294967296 = v by omega, List.set_eq_take_append_cons_drop, if_pos (by omega)]
    simp
  | succ d ih =>
    intro i x v hd hx hw hv
    refine Ev.step (fun k => nat_give.l0.eq_2 _ _ _ _ _ _ k) ?_
    have e1 : wrap64 ((j : Int) + (i : Int)) = ((j + i : Nat) : Int) := by rw [w64 (by omega) (by omega)]; omega
    have e2 : wrap64 ((i : Int) + 1) = ((i + 1 : Nat) : Int) := by rw [w64 (by omega) (by omega)]; omega
    have hA := hw.getD (j + i); have hB := hy.getD i
    simp only [e1, e2, Int.toNat_natCast, rd_nat]
    rw [u64_in (n := y.getD i 0) (by omega) (by omega), u64_in (n := x.getD (j + i) 0) (by omega) (by omega), u64_in (n := x.getD (j + i) 0 + y.getD i 0) (by omega) (by omega), u64_in (n := v + (x.getD (j + i) 0 + y.getD i 0)) (by omega) (by omega)]
    refine ev_pos (by omega) ?_
    refine ev_pos (Int.natCast_nonneg _) ?_
    refine ev_pos (by omega) ?_
    refine ev_pos (by omega) ?_
    refine ev_pos (by omega) ?_
    refine ev_eq (ih (i + 1) _ _ (by omega) (by simpa using hx) ?_ (by omega)) ?_
    · intro z hz
      rcases List.mem_or_eq_of_mem_set hz with h | rfl
      · exact hw z h
      · omega
    · rw [show j + (i + 1) = j + i + 1 by omega, take_set _ _ _ (by omega), drop_set, getD_drop (l := y) (i := i) (by omega)]
      simp only [giveT, headD_drop, tail_drop]
      have h5 : ∀ z, (x.set (j + i) z).drop (j + y.length + 1) = x.drop (j + y.length + 1) := fun z => List.drop_set_of_lt (by omega)
      rw [h5]
      simp
theorem give_f {x y : List Int} (hx : Wf x) (hy : Wf y) (j : Nat) (hL : x.length < 4611686018427387904) (hj : j + y.length < x.length) :
    Ev (fun k => nat_give.f k x y (j : Int)) (x.take j ++ giveT y ((x.drop j).take (y.length + 1)) 0 ++ x.drop (j + y.length + 1)) := by
  have := give_l0 hy j hL hj y.length 0 x 0 (by omega) rfl hx (by omega)
  rw [giveT_take]
  unfold nat_give.f
  simpa using this
end Go.Proofs.YtamhiecepipnjaaDoor.GApproxNear
