/- What the printed functions of nat tell: trim, Of, order, sum, less, times, short, and what stands on them. -/
import Derived.Test.YtamhiecepipnjaaDoorA2
import Derived.Test.YtamhiecepipnjaaDoorGApproxNearx
namespace Go.Proofs.YtamhiecepipnjaaDoor.GApproxNear
open Go.RowKit Go.Proofs.YtamhiecepipnjaaDoorW.PrintWords Go.Proofs.YtamhiecepipnjaaDoorW.PrintLast Go.Proofs.YtamhiecepipnjaaDoor.Pl
set_option linter.unusedVariables false
set_option linter.unusedSimpArgs false

/-! ### Steps -/
theorem ev_pos {α : Type} {c : Prop} [Decidable c] {a b : Nat → Option α} {r : α} (h : c) (e : Ev a r) : Ev (fun k => if c then a k else b k) r := by
  simpa only [if_pos h] using e
theorem ev_neg {α : Type} {c : Prop} [Decidable c] {a b : Nat → Option α} {r : α} (h : ¬ c) (e : Ev b r) : Ev (fun k => if c then a k else b k) r := by
  simpa only [if_neg h] using e
theorem ev_bind {α β : Type} {g : Nat → Option α} {f : Nat → α → Option β} {x : α} {r : β} (h : Ev g x) (k : Ev (fun n => f n x) r) : Ev (fun n => (g n).bind fun t => f n t) r := Ev.bind h k
theorem ev_bindc {α β : Type} {o : Option α} {f : Nat → α → Option β} {x : α} {r : β} (h : o = some x) (k : Ev (fun n => f n x) r) : Ev (fun n => o.bind fun t => f n t) r := by
  subst h; exact k
theorem ev_now {α : Type} {r r' : α} (h : r = r') : Ev (fun _ => some r) r' := by subst h; exact Ev.now _
theorem ev_bindr {α β : Type} {g : Nat → Option α} {f : α → β} {x : α} {r : β} (h : Ev g x) (e : f x = r) : Ev (fun n => (g n).bind fun t => some (f t)) r := by
  subst e; exact Ev.bind h (Ev.now _)
theorem ev_eq {α : Type} {g : Nat → Option α} {r r' : α} (h : Ev g r) (e : r = r') : Ev g r' := e ▸ h

/-! ### Numbers -/
theorem w64 {n : Int} (h0 : -9223372036854775808 ≤ n) (h1 : n ≤ 9223372036854775807) : wrap64 n = n := IntWalk.wrap64_in n ⟨h0, h1⟩
/-- Told aside: what the walk's and omega's eyes are spared. -/
theorem wn {n : Int} (m : Nat) (h : n = (m : Int)) (hm : m ≤ 9223372036854775807) : Aside0 (wrap64 n = (m : Int)) := ⟨by rw [w64 (by omega) (by omega)]; exact h⟩
theorem u64_mod (n : Int) : IntKind.u64.wrap n = n % 18446744073709551616 := by simp [IntKind.wrap, IntKind.bits, IntKind.signed]
theorem u32_mod (n : Int) : IntKind.u32.wrap n = n % 4294967296 := by simp [IntKind.wrap, IntKind.bits, IntKind.signed]
theorem u64_in {n : Int} (h0 : 0 ≤ n) (h1 : n < 18446744073709551616) : IntKind.u64.wrap n = n := by rw [u64_mod]; omega
theorem u32_in {n : Int} (h0 : 0 ≤ n) (h1 : n < 4294967296) : IntKind.u32.wrap n = n := by rw [u32_mod]; omega
theorem rd_nat (l : List Int) (i : Nat) : rd l (i : Int) = l.getD i 0 := by simp [rd]
theorem join64 {x y : Int} (hx0 : 0 ≤ x) (hx : x < 4294967296) (hy0 : 0 ≤ y) (hy : y < 4294967296) : Go.bits .or .u64 (x * 4294967296) y = x * 4294967296 + y :=
  bits_join .u64 64 (by decide) (fun n h0 h1 => u64_in h0 h1) 32 _ _ (by omega) (by omega) (by omega) hy0 (by omega) (by omega)
theorem getD_drop {l : List Int} {i : Nat} (h : i < l.length) : l.drop i = l.getD i 0 :: l.drop (i + 1) := by
  rw [List.drop_eq_getElem_cons h, List.getD_eq_getElem?_getD, List.getElem?_eq_getElem h]; rfl
theorem take_snoc {l : List Int} {i : Nat} (h : i < l.length) : l.take (i + 1) = l.take i ++ [l.getD i 0] := by
  rw [List.take_succ_eq_append_getElem h, List.getD_eq_getElem?_getD, List.getElem?_eq_getElem h]; rfl
theorem headD_drop (l : List Int) (i : Nat) : (l.drop i).headD 0 = l.getD i 0 := by
  rcases Nat.lt_or_ge i l.length with h | h
  · rw [getD_drop h]; rfl
  · rw [List.drop_eq_nil_of_le h, List.getD_eq_getElem?_getD, List.getElem?_eq_none h]; rfl
theorem tail_drop (l : List Int) (i : Nat) : (l.drop i).tail = l.drop (i + 1) := by rw [List.tail_drop]
theorem take_set (l : List Int) (i : Nat) (v : Int) (h : i < l.length) : (l.set i v).take (i + 1) = l.take i ++ [v] := by
  rw [List.take_succ_eq_append_getElem (by simpa using h), List.take_set_of_le (Nat.le_refl _)]; simp
theorem drop_set (l : List Int) (i : Nat) (v : Int) : (l.set i v).drop (i + 1) = l.drop (i + 1) := List.drop_set_of_lt (by omega)

/-! ### trim -/
theorem trim_l0 (l : List Int) (hl : l.length < 4611686018427387904) (n : Nat) (hn : n ≤ l.length) : Ev (fun k => nat_trim.l0 k l (n : Int)) (trimL (l.take n)) := by
  induction n with
  | zero =>
    refine Ev.step (fun k => nat_trim.l0.eq_2 _ _ k) ?_
    refine ev_neg (by omega) (ev_pos (by omega) (ev_pos (by omega) (ev_now ?_)))
    simp [trimL]
  | succ n ih =>
    refine Ev.step (fun k => nat_trim.l0.eq_2 _ _ k) ?_
    have e : wrap64 (((n + 1 : Nat) : Int) - 1) = (n : Int) := by rw [w64 (by omega) (by omega)]; omega
    simp only [e, rd_nat]
    refine ev_pos (by omega) (ev_pos (by omega) (ev_pos (by omega) ?_))
    rw [take_snoc (by omega)]
    by_cases h : l.getD n 0 = 0
    · refine ev_pos h ?_
      rw [h, trimL_snoc_zero]
      exact ih (by omega)
    · refine ev_neg h (ev_pos (by omega) (ev_pos (by omega) (ev_now ?_)))
      rw [trimL_self]
      · rw [← take_snoc (by omega)]; rfl
      · intro y hy
        rw [List.getLast?_append] at hy
        simp at hy
        rw [← hy]; simpa using h
theorem trim_f (l : List Int) (hl : l.length < 4611686018427387904) : Ev (fun k => nat_trim.f k l) (trimL l) := by
  have := trim_l0 l hl l.length (Nat.le_refl _)
  rw [List.take_length] at this
  exact this

/-! ### Right, Of -/
/-- A natural as the program has it. -/
def IsNat (l : List Int) : Prop := Wf l ∧ Nrm l ∧ l.length ≤ 64
theorem nrm_iff (l : List Int) (h : l ≠ []) : Nrm l ↔ l.getD (l.length - 1) 0 ≠ 0 := by
  unfold Nrm
  rw [List.getLast?_eq_getElem?, List.getD_eq_getElem?_getD, List.getElem?_eq_getElem (by have := List.length_pos_iff.2 h; omega)]
  simp
instance (l : List Int) : Decidable (Nrm l) := if h : l = [] then .isTrue (h ▸ Nrm.nil) else decidable_of_iff _ (nrm_iff l h).symm
theorem right_f (l : List Int) : nat_Right.f l = some (decide (l.length ≤ 64 ∧ Nrm l)) := by
  unfold nat_Right.f
  by_cases h : l.length ≤ 64
  · rw [if_pos (by omega)]
    by_cases h0 : l = []
    · subst h0; simp [Nrm.nil]
    · have := List.length_pos_iff.2 h0
      have e : wrap64 ((l.length : Int) - 1) = ((l.length - 1 : Nat) : Int) := by rw [w64 (by omega) (by omega)]; omega
      rw [if_neg (by omega), e, if_pos (by omega), if_pos (by omega), rd_nat]
      congr 1
      rw [Bool.eq_iff_iff]
      simp only [bne_iff_ne, decide_eq_true_eq, nrm_iff l h0]
      exact ⟨fun z => ⟨h, z⟩, fun z => z.2⟩
  · rw [if_neg (by omega)]; congr 1; simp [h]
theorem right_nat {l : List Int} (h : IsNat l) : nat_Right.f l = some true := by rw [right_f]; simp [h.2.1, h.2.2]
theorem of_f (n : Int) (h0 : 0 ≤ n) (h1 : n < 18446744073709551616) : ∃ r, Ev (fun k => nat_Of.f k n) r ∧ IsNat r ∧ V r = n ∧ r.length ≤ 2 := by
  refine ⟨_, ev_bindr (trim_f [n % 4294967296, (n / 4294967296) % 4294967296] (by simp)) rfl, ⟨?_, trimL_Nrm _, ?_⟩, ?_, ?_⟩
  · exact trimL_Wf (Wf.cons (by omega) (by omega) (Wf.cons (by omega) (by omega) Wf.nil))
  · have := trimL_len [n % 4294967296, (n / 4294967296) % 4294967296]; simp at this; omega
  · rw [trimL_V]; simp only [V]; omega
  · exact trimL_len _

/-! ### order -/
def sgn (x y : Int) : Int := if x < y then -1 else if x > y then 1 else 0
theorem sgn_lt {x y : Int} (h : x < y) : sgn x y = -1 := by simp [sgn, h]
theorem sgn_gt {x y : Int} (h : x > y) : sgn x y = 1 := by unfold sgn; rw [if_neg (by omega), if_pos h]
theorem sgn_eq (x : Int) : sgn x x = 0 := by unfold sgn; rw [if_neg (by omega), if_neg (by omega)]
theorem V_take_lt {a b : List Int} (ha : Wf a) (hb : Wf b) {n : Nat} (hla : n < a.length) (hlb : n < b.length) (h : a.getD n 0 < b.getD n 0) : V (a.take (n + 1)) < V (b.take (n + 1)) := by
  rw [take_snoc hla, take_snoc hlb, V_app, V_app]
  have h1 := V_lt (ha.take n)
  have h2 := V_nonneg (hb.take n)
  rw [List.length_take, List.length_take, Nat.min_eq_left (by omega), Nat.min_eq_left (by omega)] at *
  simp only [V, Int.mul_zero, Int.add_zero]
  have := Int.mul_le_mul_of_nonneg_left (show a.getD n 0 + 1 ≤ b.getD n 0 by omega) (Int.le_of_lt (W_pos n))
  rw [Int.mul_add] at this
  omega
theorem order_l0 (a b : List Int) (hl : a.length = b.length) (hm : a.length < 4611686018427387904) (ha : Wf a) (hb : Wf b) (n : Nat) (hn : n ≤ a.length) (he : a.drop n = b.drop n) :
    Ev (fun k => nat_order.l0 k a b ((n : Int) - 1)) (sgn (V (a.take n)) (V (b.take n))) := by
  induction n with
  | zero =>
    refine Ev.step (fun k => nat_order.l0.eq_2 _ _ _ k) ?_
    refine ev_neg (by omega) (ev_now ?_)
    simp [sgn_eq]
  | succ n ih =>
    refine Ev.step (fun k => nat_order.l0.eq_2 _ _ _ k) ?_
    have e0 : (((n + 1 : Nat) : Int) - 1) = (n : Int) := by omega
    have e : wrap64 ((n : Int) - 1) = (n : Int) - 1 := by rw [w64 (by omega) (by omega)]
    simp only [e0, e, rd_nat]
    refine ev_pos (by omega) (ev_pos (by omega) (ev_pos (by omega) (ev_pos (by omega) ?_)))
    by_cases h : a.getD n 0 < b.getD n 0
    · refine ev_pos h (ev_now ?_)
      rw [sgn_lt (V_take_lt ha hb (by omega) (by omega) h)]
    · refine ev_neg h ?_
      by_cases h2 : a.getD n 0 > b.getD n 0
      · refine ev_pos h2 (ev_now ?_)
        rw [sgn_gt (V_take_lt hb ha (by omega) (by omega) h2)]
      · refine ev_neg h2 ?_
        have h3 : a.getD n 0 = b.getD n 0 := by omega
        refine ev_eq (ih (by omega) (by rw [getD_drop (l := a) (i := n) (by omega), getD_drop (l := b) (i := n) (by omega), h3, he])) ?_
        rw [take_snoc (show n < a.length by omega), take_snoc (show n < b.length by omega), V_app, V_app, h3]
        simp only [List.length_take, hl]
        unfold sgn
        congr 1
        · simp
        · simp
theorem order_f {a b : List Int} (ha : IsNat a) (hb : IsNat b) : Ev (fun k => nat_order.f k a b) (sgn (V a) (V b)) := by
  have h1 := ha.2.2; have h2 := hb.2.2
  unfold nat_order.f
  by_cases h : a.length = b.length
  · refine ev_pos (by omega) ?_
    have e : wrap64 ((a.length : Int) - 1) = (a.length : Int) - 1 := by rw [w64 (by omega) (by omega)]
    simp only [e]
    have := order_l0 a b h (by omega) ha.1 hb.1 a.length (Nat.le_refl _) (by rw [List.drop_length, h, List.drop_length])
    rw [List.take_length] at this
    refine ev_eq this ?_
    rw [h, List.take_length]
  · refine ev_neg (by omega) (ev_now ?_)
    rw [w64 (by omega) (by omega)]
    rcases Nat.lt_or_ge a.length b.length with h3 | h3
    · rw [sgn_lt]
      · unfold mn mx
        split <;> split <;> omega
      · obtain ⟨n, hn⟩ : ∃ n, b.length = n + 1 := ⟨b.length - 1, by omega⟩
        have := hb.2.1.ge hb.1 n hn
        have := V_lt ha.1
        have := W_mono (show a.length ≤ n by omega)
        omega
    · rw [sgn_gt]
      · unfold mn mx
        split <;> split <;> omega
      · obtain ⟨n, hn⟩ : ∃ n, a.length = n + 1 := ⟨a.length - 1, by omega⟩
        have := ha.2.1.ge ha.1 n hn
        have := V_lt hb.1
        have := W_mono (show b.length ≤ n by omega)
        omega
theorem cmp_f {a b : List Int} (ha : IsNat a) (hb : IsNat b) : Ev (fun k => nat_Cmp.f k a b) (sgn (V a) (V b)) := by
  refine ev_bindc (right_nat ha) (ev_pos rfl (ev_bindc (right_nat hb) (ev_pos rfl (ev_bindr (order_f ha hb) rfl))))

/-! ### sum, Add -/
theorem at_f (l : List Int) (hw : Wf l) (i : Nat) : nat_at.f l (i : Int) = some (l.getD i 0) := by
  unfold nat_at.f
  by_cases h : i < l.length
  · rw [if_pos (by omega), if_pos (by omega), rd_nat, u64_in (hw.getD i).1 (by have := (hw.getD i).2; omega)]
  · rw [if_neg (by omega), List.getD_eq_getElem?_getD, List.getElem?_eq_none (by omega)]; rfl
theorem sum_l0 {a b : List Int} (ha : Wf a) (hb : Wf b) {n : Nat} (hm : n < 4611686018427387904) : ∀ (d i : Nat) (out : List Int) (c : Int), out.length = n → i + d = n → 0 ≤ c → c ≤ 1 →
    Ev (fun k => nat_sum.l0 k a b out c (n : Int) (i : Int)) (trimL (out.take i ++ sumT d (a.drop i) (b.drop i) c)) := by
  intro d
  induction d with
  | zero =>
    intro i out c ho hi h0 h1
    refine Ev.step (fun k => nat_sum.l0.eq_2 _ _ _ _ _ _ k) ?_
    refine ev_neg (by omega) (ev_bindr (trim_f out (by omega)) ?_)
    rw [List.take_of_length_le (by omega)]; simp [sumT]
  | succ d ih =>
    intro i out c ho hi h0 h1
    refine Ev.step (fun k => nat_sum.l0.eq_2 _ _ _ _ _ _ k) ?_
    have e : wrap64 ((i : Int) + 1) = ((i + 1 : Nat) : Int) := by rw [w64 (by omega) (by omega)]; omega
    have hA := ha.getD i; have hB := hb.getD i
    refine ev_pos (by omega) (ev_bindc (at_f a ha i) (ev_bindc (at_f b hb i) (ev_pos (by omega) (ev_pos (by omega) ?_))))
    simp only [e, Int.toNat_natCast]
    rw [u64_in (n := a.getD i 0 + b.getD i 0) (by omega) (by omega), u64_in (n := c + (a.getD i 0 + b.getD i 0)) (by omega) (by omega)]
    refine ev_eq (ih (i + 1) _ _ (by simpa using ho) (by omega) (by omega) (by omega)) ?_
    rw [take_set _ _ _ (by omega), sumT, headD_drop, headD_drop, tail_drop, tail_drop]
    simp
theorem sum_f {a b : List Int} (ha : Wf a) (hb : Wf b) (la : a.length ≤ 1000000) (lb : b.length ≤ 1000000) :
    ∃ r, Ev (fun k => nat_sum.f k a b) r ∧ Wf r ∧ Nrm r ∧ V r = V a + V b ∧ r.length ≤ max a.length b.length + 1 := by
  have hmx : mx (a.length : Int) (b.length : Int) = ((max a.length b.length : Nat) : Int) := by unfold mx; split <;> omega
  have e : wrap64 (((max a.length b.length : Nat) : Int) + 1) = ((max a.length b.length + 1 : Nat) : Int) := by rw [w64 (by omega) (by omega)]; omega
  have h := sum_l0 ha hb (n := max a.length b.length + 1) (by omega) (max a.length b.length + 1) 0 (List.replicate (max a.length b.length + 1) 0) 0 (by simp) (by omega) (by omega) (by omega)
  refine ⟨_, ?_, trimL_Wf (sumT_Wf (max a.length b.length + 1) a b 0), trimL_Nrm _, ?_, ?_⟩
  · unfold nat_sum.f
    simp only [hmx, e, Int.toNat_natCast]
    refine ev_pos (by omega) (ev_pos (by omega) ?_)
    simp only [Option.bind_some, List.length_replicate]
    refine ev_eq h ?_
    simp
  · rw [trimL_V, sumT_V _ ha hb (by omega) (by omega) (by omega) (by omega)]; omega
  · have := trimL_len (sumT (max a.length b.length + 1) a b 0)
    rwa [sumT_len] at this
theorem kept_f (l : List Int) : nat_kept.f l = if l.length > 64 then some ([], 6) else some (l, 0) := by
  unfold nat_kept.f
  by_cases h : l.length > 64
  · rw [if_pos (by omega), if_pos h]
  · rw [if_neg (by omega), if_neg h]
/-- The natural of a number. -/
theorem isNat_of {l : List Int} (hw : Wf l) (hn : Nrm l) (hl : l.length ≤ 64) : IsNat l := ⟨hw, hn, hl⟩
theorem add_f {a b : List Int} (ha : IsNat a) (hb : IsNat b) : ∃ r, Wf r ∧ Nrm r ∧ V r = V a + V b ∧ Ev (fun k => nat_Add.f k a b) (if r.length > 64 then ([], 6) else (r, 0)) := by
  obtain ⟨r, hr, hw, hn, hv, hl⟩ := sum_f ha.1 hb.1 (by have := ha.2.2; omega) (by have := hb.2.2; omega)
  refine ⟨r, hw, hn, hv, ?_⟩
  refine ev_bindc (right_nat ha) (ev_pos rfl (ev_bindc (right_nat hb) ?_))
  first | (refine Ev.step (fun k => nat_Add.j0.eq_2 _ _ _ k) ?_; refine ev_neg (by simp) ?_) | refine ev_pos rfl ?_
  refine ev_bind hr ?_
  rw [kept_f]
  split
  · exact ev_now rfl
  · exact ev_now rfl

/-! ### less, Sub -/
theorem less_l0 {a b : List Int} (ha : Wf a) (hb : Wf b) {n : Nat} (hm : n < 4611686018427387904) (hn : a.length = n) : ∀ (d i : Nat) (out : List Int) (c : Int), out.length = n → i + d = n → 0 ≤ c → c ≤ 1 →
    Ev (fun k => nat_less.l0 k a b out c (n : Int) (i : Int)) (trimL (out.take i ++ lessT (a.drop i) (b.drop i) c)) := by
  intro d
  induction d with
  | zero =>
    intro i out c ho hi h0 h1
    refine Ev.step (fun k => nat_less.l0.eq_2 _ _ _ _ _ _ k) ?_
    refine ev_neg (by omega) (ev_bindr (trim_f out (by omega)) ?_)
    rw [List.take_of_length_le (by omega), List.drop_eq_nil_of_le (by omega)]; simp [lessT]
  | succ d ih =>
    intro i out c ho hi h0 h1
    refine Ev.step (fun k => nat_less.l0.eq_2 _ _ _ _ _ _ k) ?_
    have e : wrap64 ((i : Int) + 1) = ((i + 1 : Nat) : Int) := by rw [w64 (by omega) (by omega)]; omega
    have hA := ha.getD i; have hB := hb.getD i
    refine ev_pos (by omega) (ev_pos (by omega) (ev_pos (by omega) (ev_bindc (at_f b hb i) (ev_pos (by omega) ?_))))
    simp only [e, Int.toNat_natCast, rd_nat]
    rw [u64_in (n := a.getD i 0) (by omega) (by omega), u64_mod (a.getD i 0 - b.getD i 0), u64_mod]
    have hd : ((a.getD i 0 - b.getD i 0) % 18446744073709551616 - c) % 18446744073709551616 = (a.getD i 0 - b.getD i 0 - c) % 18446744073709551616 := by omega
    rw [hd]
    refine ev_eq (ih (i + 1) _ _ (by simpa using ho) (by omega) (by omega) (by omega)) ?_
    rw [take_set _ _ _ (by omega), getD_drop (l := a) (i := i) (by omega), lessT, headD_drop, tail_drop]
    have h3 : (a.getD i 0 - b.getD i 0 - c) % 18446744073709551616 % 4294967296 = (a.getD i 0 - b.getD i 0 - c) % 4294967296 := by omega
    have h4 : (a.getD i 0 - b.getD i 0 - c) % 18446744073709551616 / 9223372036854775808 = if a.getD i 0 - b.getD i 0 - c < 0 then 1 else 0 := by split <;> omega
    rw [h3, h4]
    simp
theorem less_f {a b : List Int} (ha : Wf a) (hb : Wf b) (la : a.length ≤ 1000000) (hv : V b ≤ V a) :
    ∃ r, Ev (fun k => nat_less.f k a b) r ∧ Wf r ∧ Nrm r ∧ V r = V a - V b ∧ r.length ≤ a.length := by
  have h := less_l0 ha hb (n := a.length) (by omega) rfl a.length 0 (List.replicate a.length 0) 0 (by simp) (by omega) (by omega) (by omega)
  refine ⟨_, ?_, trimL_Wf (lessT_Wf a b 0), trimL_Nrm _, ?_, ?_⟩
  · unfold nat_less.f
    simp only [Int.toNat_natCast]
    refine ev_pos (by omega) (ev_pos (by omega) ?_)
    simp only [Option.bind_some, List.length_replicate]
    refine ev_eq h ?_
    simp
  · rw [trimL_V, lessT_V ha hb (by omega) (by omega) (by omega)]; omega
  · have := trimL_len (lessT a b 0)
    rwa [lessT_len] at this
theorem sub_f {a b : List Int} (ha : IsNat a) (hb : IsNat b) (hv : V b ≤ V a) : ∃ r, IsNat r ∧ V r = V a - V b ∧ Ev (fun k => nat_Sub.f k a b) (r, 0) := by
  obtain ⟨r, hr, hw, hn, hv2, hl⟩ := less_f ha.1 hb.1 (by have := ha.2.2; omega) hv
  refine ⟨r, ⟨hw, hn, by have := ha.2.2; omega⟩, hv2, ?_⟩
  refine ev_bindc (right_nat ha) (ev_pos rfl (ev_bindc (right_nat hb) (ev_pos rfl (ev_bind (order_f ha hb) (ev_neg ?_ (ev_bindr hr rfl))))))
  unfold sgn; split
  · omega
  · split <;> omega
theorem sub_less {a b : List Int} (ha : IsNat a) (hb : IsNat b) (hv : V a < V b) : Ev (fun k => nat_Sub.f k a b) ([], 1) := by
  refine ev_bindc (right_nat ha) (ev_pos rfl (ev_bindc (right_nat hb) (ev_pos rfl (ev_bind (order_f ha hb) (ev_pos ?_ (ev_now rfl))))))
  rw [sgn_lt hv]; decide
end Go.Proofs.YtamhiecepipnjaaDoor.GApproxNear
