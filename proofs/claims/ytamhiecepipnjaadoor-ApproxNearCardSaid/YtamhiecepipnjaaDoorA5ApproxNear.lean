/- What the printed functions tell: the length of a limb, shifts, the guess, and the long division. -/
import Derived.Test.YtamhiecepipnjaaDoorA4ApproxNear
namespace Go.Proofs.YtamhiecepipnjaaDoor.GApproxNear
open Go.RowKit Go.Proofs.YtamhiecepipnjaaDoorW.PrintWords Go.Proofs.YtamhiecepipnjaaDoorW.PrintLast Go.Proofs.YtamhiecepipnjaaDoorW.PrintMore Go.Proofs.YtamhiecepipnjaaDoor.Pl
set_option linter.unusedVariables false
set_option linter.unusedSimpArgs false

/-! ### How many bits a limb has -/
def lenTab : ByteArray := ⟨#[0, 1, 2, 2, 3, 3, 3, 3, 4, 4, 4, 4, 4, 4, 4, 4, 5, 5, 5, 5, 5, 5, 5, 5, 5, 5, 5, 5, 5, 5, 5, 5, 6, 6, 6, 6, 6, 6, 6, 6, 6, 6, 6, 6, 6, 6, 6, 6, 6, 6, 6, 6, 6, 6, 6, 6, 6, 6, 6, 6, 6, 6, 6, 6, 7, 7, 7, 7, 7, 7, 7, 7, 7, 7, 7, 7, 7, 7, 7, 7, 7, 7, 7, 7, 7, 7, 7, 7, 7, 7, 7, 7, 7, 7, 7, 7, 7, 7, 7, 7, 7, 7, 7, 7, 7, 7, 7, 7, 7, 7, 7, 7, 7, 7, 7, 7, 7, 7, 7, 7, 7, 7, 7, 7, 7, 7, 7, 7, 8, 8, 8, 8, 8, 8, 8, 8, 8, 8, 8, 8, 8, 8, 8, 8, 8, 8, 8, 8, 8, 8, 8, 8, 8, 8, 8, 8, 8, 8, 8, 8, 8, 8, 8, 8, 8, 8, 8, 8, 8, 8, 8, 8, 8, 8, 8, 8, 8, 8, 8, 8, 8, 8, 8, 8, 8, 8, 8, 8, 8, 8, 8, 8, 8, 8, 8, 8, 8, 8, 8, 8, 8, 8, 8, 8, 8, 8, 8, 8, 8, 8, 8, 8, 8, 8, 8, 8, 8, 8, 8, 8, 8, 8, 8, 8, 8, 8, 8, 8, 8, 8, 8, 8, 8, 8, 8, 8, 8, 8, 8, 8, 8, 8, 8, 8, 8, 8, 8, 8, 8, 8, 8, 8, 8, 8, 8, 8]⟩
theorem lenTab_is : ∀ i : Fin 256, bt lenTab (i.val : Int) = ((if i.val = 0 then 0 else i.val.log2 + 1 : Nat) : Int) := by decide +kernel
theorem len32_eq (a0 : Int) : bits_Len32.f a0 = (if a0 ≥ 65536 then (if (a0 / 65536) ≥ 256 then (if 0 ≤ (((a0 / 65536) / 256) % 256) then (if (((a0 / 65536) / 256) % 256) < 256 then (some (wrap64 ((16 + 8) + (wrap64 (bt lenTab (((a0 / 65536) / 256) % 256)))))) else (none)) else (none))
    else (if 0 ≤ ((a0 / 65536) % 256) then (if ((a0 / 65536) % 256) < 256 then (some (wrap64 (16 + (wrap64 (bt lenTab ((a0 / 65536) % 256)))))) else (none)) else (none)))
    else (if a0 ≥ 256 then (if 0 ≤ ((a0 / 256) % 256) then (if ((a0 / 256) % 256) < 256 then (some (wrap64 ((0 + 8) + (wrap64 (bt lenTab ((a0 / 256) % 256)))))) else (none)) else (none))
    else (if 0 ≤ ((a0) % 256) then (if ((a0) % 256) < 256 then (some (wrap64 (0 + (wrap64 (bt lenTab ((a0) % 256)))))) else (none)) else (none)))) := rfl
theorem len8 {i : Int} (h0 : 0 ≤ i) (h1 : i < 256) : i = 0 ∧ bt lenTab i = 0 ∨ ∃ t : Nat, bt lenTab i = (t : Int) + 1 ∧ t ≤ 7 ∧ (2 : Int) ^ t ≤ i ∧ i < 2 ^ (t + 1) := by
  obtain ⟨n, rfl⟩ := Int.eq_ofNat_of_zero_le h0
  have h := lenTab_is ⟨n, by omega⟩
  simp only at h
  by_cases hn : n = 0
  · subst hn; left; exact ⟨rfl, by simpa using h⟩
  · right
    rw [if_neg hn] at h
    have h2 := Nat.log2_self_le hn
    have h3 := Nat.lt_log2_self (n := n)
    have h4 : n.log2 ≤ 7 := by
      have : n.log2 < 8 := (Nat.log2_lt hn).2 (by omega)
      omega
    refine ⟨n.log2, by rw [h]; omega, h4, ?_, ?_⟩
    · exact_mod_cast h2
    · exact_mod_cast h3
theorem len32_f {a : Int} (h0 : 0 < a) (h1 : a < 4294967296) : ∃ t : Nat, bits_Len32.f a = some ((t : Int) + 1) ∧ t ≤ 31 ∧ (2 : Int) ^ t ≤ a ∧ a < 2 ^ (t + 1) := by
  have key : ∀ (j : Nat) (i : Int), j ≤ 24 → (i = 0 ∧ bt lenTab i = 0 ∨ ∃ t : Nat, bt lenTab i = (t : Int) + 1 ∧ t ≤ 7 ∧ (2 : Int) ^ t ≤ i ∧ i < 2 ^ (t + 1)) → i ≠ 0 → 2 ^ j * i ≤ a → a < 2 ^ j * (i + 1) →
      ∃ t : Nat, some (wrap64 ((j : Int) + wrap64 (bt lenTab i))) = some ((t : Int) + 1) ∧ t ≤ 31 ∧ (2 : Int) ^ t ≤ a ∧ a < 2 ^ (t + 1) := by
    intro j i hj h hi hlo hhi
    rcases h with ⟨h, _⟩ | ⟨t, h, ht, h2, h3⟩
    · exact absurd h hi
    · refine ⟨j + t, ?_, by omega, ?_, ?_⟩
      · rw [h, w64 (n := (t : Int) + 1) (by omega) (by omega), w64 (by omega) (by omega)]
        exact congrArg some (by omega)
      · rw [Int.pow_add]
        exact Int.le_trans (Int.mul_le_mul_of_nonneg_left h2 (Int.le_of_lt (Int.pow_pos (by decide)))) hlo
      · rw [show j + t + 1 = j + (t + 1) by omega, Int.pow_add]
        exact Int.lt_of_lt_of_le hhi (Int.mul_le_mul_of_nonneg_left (by omega) (Int.le_of_lt (Int.pow_pos (by decide))))
  rw [len32_eq]
  by_cases c1 : a ≥ 65536
  · rw [if_pos c1]
    by_cases c2 : a / 65536 ≥ 256
    · rw [if_pos c2, if_pos (by omega), if_pos (by omega)]
      exact key 24 _ (by omega) (len8 (by omega) (by omega)) (by omega) (by omega) (by omega)
    · rw [if_neg c2, if_pos (by omega), if_pos (by omega)]
      exact key 16 _ (by omega) (len8 (by omega) (by omega)) (by omega) (by omega) (by omega)
  · rw [if_neg c1]
    by_cases c2 : a ≥ 256
    · rw [if_pos c2, if_pos (by omega), if_pos (by omega)]
      exact key 8 _ (by omega) (len8 (by omega) (by omega)) (by omega) (by omega) (by omega)
    · rw [if_neg c2, if_pos (by omega), if_pos (by omega)]
      exact key 0 _ (by omega) (len8 (by omega) (by omega)) (by omega) (by omega) (by omega)
/-- Noughts ahead of a limb: so many that it begins with a 1 behind the shift. -/
theorem lz_f {a : Int} (h0 : 0 < a) (h1 : a < 4294967296) : ∃ s t : Nat, bits_LeadingZeros32.f a = some (s : Int) ∧ s + t = 31 ∧ (2 : Int) ^ t ≤ a ∧ a < 2 ^ (t + 1) := by
  obtain ⟨t, ht, h31, hlo, hhi⟩ := len32_f h0 h1
  refine ⟨31 - t, t, ?_, by omega, hlo, hhi⟩
  unfold bits_LeadingZeros32.f
  rw [ht]
  simp only [Option.bind_some]
  rw [w64 (by omega) (by omega)]; congr 1; omega

/-! ### Shifts -/
theorem or_comm (k : IntKind) (j : Nat) (hj : j ≤ k.bits) (hk : ∀ n : Int, 0 ≤ n → n < 2 ^ j → k.wrap n = n) {x y : Int} (hx0 : 0 ≤ x) (hx : x < 2 ^ j) (hy0 : 0 ≤ y) (hy : y < 2 ^ j) : Go.bits .or k x y = Go.bits .or k y x := by
  obtain ⟨a, rfl⟩ := Int.eq_ofNat_of_zero_le hx0
  obtain ⟨b, rfl⟩ := Int.eq_ofNat_of_zero_le hy0
  have ha : a < 2 ^ j := by exact_mod_cast hx
  have hb : b < 2 ^ j := by exact_mod_cast hy
  rw [(bits_nat k j hj hk a b ha hb).2, (bits_nat k j hj hk b a hb ha).2, Nat.or_comm]
theorem pow_pq {s u : Nat} (h : s + u = 32) : (2 : Int) ^ s * 2 ^ u = 4294967296 := by rw [← Int.pow_add, h]; decide
theorem pow_le32 {s : Nat} (h : s ≤ 32) : (2 : Int) ^ s ≤ 4294967296 := by
  have e := pow_pq (show s + (32 - s) = 32 by omega)
  have h1 : (0 : Int) < 2 ^ s := Int.pow_pos (by decide)
  have h2 : (0 : Int) < 2 ^ (32 - s) := Int.pow_pos (by decide)
  have := Int.mul_le_mul_of_nonneg_left (show (1 : Int) ≤ 2 ^ (32 - s) by omega) (Int.le_of_lt h1)
  omega
/-- Two parts of a limb that don't meet. -/
theorem join32 {s u : Nat} (hsu : s + u = 32) {m c : Int} (hm0 : 0 ≤ m) (hm : m < 2 ^ u) (hc0 : 0 ≤ c) (hc : c < 2 ^ s) : Go.bits .or .u32 (m * 2 ^ s) c = m * 2 ^ s + c := by
  have hp : (0 : Int) < 2 ^ s := Int.pow_pos (by decide)
  have h1 : m * 2 ^ s < 4294967296 := by
    rw [← pow_pq hsu, Int.mul_comm]
    exact (Int.mul_lt_mul_left hp).2 hm
  have h2 := pow_le32 (show s ≤ 32 by omega)
  exact bits_join .u32 32 (by decide) (fun n h0 h1 => u32_in h0 (by omega)) s _ _ (Int.mul_nonneg hm0 (by omega)) (Int.mul_emod_left ..) (by omega) hc0 hc (by omega)
theorem shl32 {x : Int} {s u : Nat} (hsu : s + u = 32) (hx0 : 0 ≤ x) : shl .u32 x (s : Int) = (x % 2 ^ u) * 2 ^ s := by
  unfold shl
  rw [Int.toNat_natCast, Nat.min_eq_left (by show s ≤ 32; omega), u32_mod, ← pow_pq hsu, Int.mul_comm x, Int.mul_emod_mul_of_pos _ _ (Int.pow_pos (by decide)), Int.mul_comm]
theorem shr64 (x : Int) {u : Nat} (hu : u ≤ 32) : shr .u64 x (u : Int) = x / 2 ^ u := by
  unfold shr
  rw [Int.toNat_natCast, Nat.min_eq_left (by show u ≤ 64; omega)]
theorem shr32 (x : Int) {u : Nat} (hu : u ≤ 32) : shr .u32 x (u : Int) = x / 2 ^ u := by
  unfold shr
  rw [Int.toNat_natCast, Nat.min_eq_left (by show u ≤ 32; omega)]
theorem shift_l0 {a : List Int} (ha : Wf a) (hm : a.length < 4611686018427387904) {s u : Nat} (hsu : s + u = 32) (hs : s ≤ 31) : ∀ (d i : Nat) (out : List Int) (c : Int), i + d = a.length → out.length = a.length + 1 → 0 ≤ c → c < 2 ^ s →
    Ev (fun k => nat_shift.l0 k a (s : Int) out c a (a.length : Int) (i : Int)) (out.take i ++ shiftT (2 ^ s) (2 ^ u) (a.drop i) c) := by
  intro d
  induction d with
  | zero =>
    intro i out c hi ho h0 h1
    obtain rfl : i = a.length := by omega
    refine Ev.step (fun k => nat_shift.l0.eq_2 _ _ _ _ _ _ _ k) ?_
    simp only [Int.toNat_natCast]
    refine ev_neg (by clear h1; omega) (ev_pos (by clear h1; omega) (ev_pos (by clear h1; omega) (ev_now ?_)))
    rw [List.drop_length, shiftT, List.set_eq_take_append_cons_drop, if_pos (by clear h1; omega), List.drop_eq_nil_of_le (by clear h1; omega)]
  | succ d ih =>
    intro i out c hi ho h0 h1
    refine Ev.step (fun k => nat_shift.l0.eq_2 _ _ _ _ _ _ _ k) ?_
    have e2 : wrap64 ((i : Int) + 1) = ((i + 1 : Nat) : Int) := by rw [w64 (by clear h1; omega) (by clear h1; omega)]; clear h1; omega
    have e3 : wrap64 (32 - (s : Int)) = (u : Int) := by rw [w64 (by clear h1; omega) (by clear h1; omega)]; clear h1; omega
    simp only [e2, e3, Int.toNat_natCast, rd_nat]
    refine ev_pos (by clear h1; omega) ?_
    refine ev_pos (by clear h1; omega) ?_
    refine ev_pos (by clear h1; omega) ?_
    refine ev_pos (by clear h1; omega) ?_
    refine ev_pos (by clear h1; omega) ?_
    refine ev_pos (by clear h1; omega) ?_
    have hA := ha.getD i
    have hq : (0 : Int) < 2 ^ u := Int.pow_pos (by decide)
    have hp : (0 : Int) < 2 ^ s := Int.pow_pos (by decide)
    have h4 : 0 ≤ a.getD i 0 / 2 ^ u := Int.ediv_nonneg hA.1 (by omega)
    have h5 : a.getD i 0 / 2 ^ u < 2 ^ s := Int.ediv_lt_of_lt_mul hq (by rw [pow_pq hsu]; exact hA.2)
    have h6 := pow_le32 (show s ≤ 32 by omega)
    rw [u64_in (n := a.getD i 0) hA.1 (by omega), shr64 _ (by omega), shl32 hsu hA.1, join32 hsu (Int.emod_nonneg _ (by omega)) (Int.emod_lt_of_pos _ hq) h0 h1, Int.emod_eq_of_lt h4 (by omega)]
    refine ev_eq (ih (i + 1) _ _ (by omega) (by simpa using ho) h4 h5) ?_
    rw [take_set _ _ _ (by clear h1; omega), getD_drop (l := a) (i := i) (by omega), shiftT]
    simp
theorem shift_f {a : List Int} (ha : Wf a) (la : a.length ≤ 1000000) {s u : Nat} (hsu : s + u = 32) (hs : s ≤ 31) : Ev (fun k => nat_shift.f k a (s : Int)) (shiftT (2 ^ s) (2 ^ u) a 0) := by
  have h := shift_l0 ha (by omega) hsu hs a.length 0 (List.replicate (a.length + 1) 0) 0 (by omega) (by simp) (by omega) (Int.pow_pos (by decide))
  unfold nat_shift.f
  have e : wrap64 ((a.length : Int) + 1) = ((a.length + 1 : Nat) : Int) := by rw [w64 (by omega) (by omega)]; omega
  simp only [Int.toNat_natCast, e]
  refine ev_pos (by omega) (ev_pos (by omega) (ev_eq h ?_))
  simp
theorem shl64 {x : Int} {u : Nat} (hu : u ≤ 32) (hx0 : 0 ≤ x) (hx : x < 4294967296) : shl .u64 x (u : Int) = x * 2 ^ u := by
  unfold shl
  have h1 := pow_le32 hu
  have h2 : (0 : Int) < 2 ^ u := Int.pow_pos (by decide)
  have h3 := Int.mul_le_mul (show x ≤ 4294967295 by omega) h1 (by omega) (by decide)
  rw [Int.toNat_natCast, Nat.min_eq_left (by show u ≤ 64; omega), u64_in (Int.mul_nonneg hx0 (by omega)) (by omega)]
theorem unshift_l0 {a : List Int} (ha : Wf a) (hm : a.length < 4611686018427387904) {s u : Nat} (hsu : s + u = 32) (hs : s ≤ 31) : ∀ (d i : Nat) (out : List Int), i + d = a.length → out.length = a.length →
    Ev (fun k => nat_unshift.l0 k a (s : Int) out a (a.length : Int) (i : Int)) (out.take i ++ unshiftT (2 ^ s) (2 ^ u) (a.drop i)) := by
  intro d
  induction d with
  | zero =>
    intro i out hi ho
    obtain rfl : i = a.length := by omega
    refine Ev.step (fun k => nat_unshift.l0.eq_2 _ _ _ _ _ _ k) ?_
    refine ev_neg (by omega) (ev_now ?_)
    rw [List.drop_length, unshiftT, List.take_of_length_le (by omega), List.append_nil]
  | succ d ih =>
    intro i out hi ho
    refine Ev.step (fun k => nat_unshift.l0.eq_2 _ _ _ _ _ _ k) ?_
    have e2 : wrap64 ((i : Int) + 1) = ((i + 1 : Nat) : Int) := by rw [w64 (by omega) (by omega)]; omega
    have e3 : wrap64 (32 - (s : Int)) = (u : Int) := by rw [w64 (by omega) (by omega)]; omega
    simp only [e2, e3, Int.toNat_natCast, rd_nat]
    refine ev_pos (by omega) ?_
    refine ev_pos (by omega) ?_
    refine ev_pos (by omega) ?_
    refine ev_pos (by omega) ?_
    refine ev_bindc (at_f a ha (i + 1)) ?_
    refine ev_pos (by omega) ?_
    refine ev_pos (by omega) ?_
    have hA := ha.getD i; have hN := ha.getD (i + 1)
    have hq : (0 : Int) < 2 ^ u := Int.pow_pos (by decide)
    have hp : (0 : Int) < 2 ^ s := Int.pow_pos (by decide)
    have h4 : 0 ≤ a.getD i 0 / 2 ^ s := Int.ediv_nonneg hA.1 (by omega)
    have h5 : a.getD i 0 / 2 ^ s < 2 ^ u := Int.ediv_lt_of_lt_mul hp (by rw [Int.mul_comm, pow_pq hsu]; exact hA.2)
    have h6 := pow_le32 (show s ≤ 32 by omega)
    have h7 := pow_le32 (show u ≤ 32 by omega)
    have h8 := Int.emod_nonneg (a.getD (i + 1) 0) (show (2 : Int) ^ s ≠ 0 by omega)
    have h9 := Int.emod_lt_of_pos (a.getD (i + 1) 0) hp
    have e5 : a.getD (i + 1) 0 * 2 ^ u % 4294967296 = (a.getD (i + 1) 0 % 2 ^ s) * 2 ^ u := by
      rw [← pow_pq (show u + s = 32 by omega), Int.mul_comm (a.getD (i + 1) 0), Int.mul_emod_mul_of_pos _ _ hq, Int.mul_comm]
    have h10 : a.getD (i + 1) 0 % 2 ^ s * 2 ^ u < 4294967296 := by
      rw [← e5]; omega
    rw [shr32 _ (by omega), shl64 (by omega) hN.1 hN.2, e5, or_comm .u32 32 (by decide) (fun n h0 h1 => u32_in h0 (by omega)) h4 (by omega) (Int.mul_nonneg h8 (by omega)) (by omega),
      join32 (show u + s = 32 by omega) h8 h9 h4 h5]
    refine ev_eq (ih (i + 1) _ (by omega) (by simpa using ho)) ?_
    rw [take_set _ _ _ (by omega), getD_drop (l := a) (i := i) (by omega), unshiftT, headD_drop, Int.add_comm (a.getD i 0 / 2 ^ s)]
    simp
theorem unshift_f {a : List Int} (ha : Wf a) (la : a.length ≤ 1000000) {s u : Nat} (hsu : s + u = 32) (hs : s ≤ 31) : Ev (fun k => nat_unshift.f k a (s : Int)) (unshiftT (2 ^ s) (2 ^ u) a) := by
  have h := unshift_l0 ha (by omega) hsu hs a.length 0 (List.replicate a.length 0) (by omega) (by simp)
  unfold nat_unshift.f
  simp only [Int.toNat_natCast]
  refine ev_pos (by omega) (ev_pos (by omega) (ev_eq h ?_))
  simp

/-! ### The guess -/
theorem drop_parts (l : List Int) (j n : Nat) (h : j + n + 2 ≤ l.length) : l.drop j = (l.drop j).take n ++ (l.getD (j + n) 0 :: l.getD (j + n + 1) 0 :: l.drop (j + n + 2)) := by
  conv => lhs; rw [← List.take_append_drop n (l.drop j)]
  rw [List.drop_drop, getD_drop (l := l) (i := j + n) (by omega), getD_drop (l := l) (i := j + n + 1) (by omega)]
theorem guess_loop {x y : List Int} (hx : Wf x) (hy : Wf y) (j n : Nat) (hn : y.length = n + 2) (hL : x.length < 4611686018427387904) (hj : j + n + 2 < x.length)
    {x1 x2 x3 y1 y2 N D : Int} (ex3 : x.getD (j + n) 0 = x3) (ey2 : y.getD n 0 = y2) (ey1 : y.getD (n + 1) 0 = y1)
    (hX3 : 0 ≤ x3 ∧ x3 < 4294967296) (hX2 : 0 ≤ x2 ∧ x2 < 4294967296) (hY2 : 0 ≤ y2 ∧ y2 < 4294967296) (hY1 : 2147483648 ≤ y1 ∧ y1 < 4294967296) (hX1 : 0 ≤ x1 ∧ x1 ≤ y1)
    (hN0 : 0 ≤ N) (hD0 : 0 ≤ D) (hND : N < 4294967296 * D)
    (hfar : ∀ q r, 0 ≤ q → q ≤ 4294967295 → q * y1 + r = x1 * 4294967296 + x2 → q * y2 ≤ r * 4294967296 + x3 → (q - 1) * D ≤ N)
    (hgreat : ∀ q r, 0 ≤ q → q * y1 + r = x1 * 4294967296 + x2 → r * 4294967296 + x3 < q * y2 → N < q * D) :
    ∀ (m : Nat) (q r : Int), q = m → q ≤ 4294967297 → 0 ≤ r → r ≤ 4294967295 → q * y1 + r = x1 * 4294967296 + x2 → N < (q + 1) * D →
      ∃ g, Ev (fun k => nat_guess.l0 k x y (j : Int) (y.length : Int) q r) g ∧ 0 ≤ g ∧ g ≤ 4294967295 ∧ (g - 1) * D ≤ N ∧ N < (g + 1) * D := by
  have E1 := wn (n := (y.length : Int) - 2) n (by omega) (by omega)
  have E0 := wn (n := (j : Int) + (y.length : Int)) (j + n + 2) (by omega) (by omega)
  have E2 := wn (n := ((j + n + 2 : Nat) : Int) - 2) (j + n) (by omega) (by omega)
  have E3 := wn (n := (y.length : Int) - 1) (n + 1) (by omega) (by omega)
  have l1 : (n : Int) < (y.length : Int) := by omega
  have l2 : ((j + n : Nat) : Int) < (x.length : Int) := by omega
  have l3 : ((n + 1 : Nat) : Int) < (y.length : Int) := by omega
  clear hn hL hj hx hy
  have head : ∀ (q r : Int) (b : Bool) {R : Int}, ¬ q > 4294967295 → 0 ≤ r → r ≤ 4294967295 → 0 ≤ q * y2 → q * y2 ≤ 18446744073709551615 → decide (q * y2 > r * 4294967296 + x3) = b →
      Ev (fun k => nat_guess.j1 k x y (j : Int) (y.length : Int) q r b) R → Ev (fun k => nat_guess.l0 k x y (j : Int) (y.length : Int) q r) R := by
    intro q r b R c1 hr0 hr1 h0 h1 hb h
    subst hb
    refine Ev.step (fun k => nat_guess.l0.eq_2 _ _ _ _ _ _ k) ?_
    simp only [E1.out, E0.out, E2.out, rd_nat, ex3, ey2]
    refine ev_neg c1 (ev_pos (Int.natCast_nonneg _) (ev_pos l1 (ev_pos (Int.natCast_nonneg _) (ev_pos l2 ?_))))
    rw [u64_in (n := y2) (by omega) (by omega), u64_in (n := x3) (by omega) (by omega), u64_in (n := r * 4294967296) (by omega) (by omega), join64 hr0 (by omega) hX3.1 hX3.2, u64_in h0 (by omega)]
    exact h
  have stop : ∀ (q r : Int), Ev (fun k => nat_guess.j1 k x y (j : Int) (y.length : Int) q r false) q := fun q r =>
    Ev.step (fun k => nat_guess.j1.eq_2 _ _ _ _ _ _ _ k) (ev_neg (by simp) (ev_now rfl))
  intro m
  induction m with
  | zero =>
    intro q r hq hq1 hr0 hr1 hsum hub
    obtain rfl : q = 0 := by omega
    have h0 : (0 : Int) * y2 = 0 := Int.zero_mul _
    refine ⟨0, head 0 r false (by decide) hr0 hr1 (by omega) (by omega) (decide_eq_false (by omega)) (stop _ _), by decide, by decide, ?_, hub⟩
    have : ((0 : Int) - 1) * D = - D := by grind
    omega
  | succ m ih =>
    intro q r hq hq1 hr0 hr1 hsum hub
    have hqy2 : q * y2 ≤ 18446744073709551615 := by
      have := Int.mul_le_mul hq1 (show y2 ≤ 4294967295 by omega) hY2.1 (by decide)
      omega
    have hqy0 : 0 ≤ q * y2 := Int.mul_nonneg (by omega) hY2.1
    -- one less
    have dec : N < q * D → ∃ g, Ev (fun k => nat_guess.j1 k x y (j : Int) (y.length : Int) q r true) g ∧ 0 ≤ g ∧ g ≤ 4294967295 ∧ (g - 1) * D ≤ N ∧ N < (g + 1) * D := by
      intro hub2
      clear hub
      have e4 : IntKind.u64.wrap (q - 1) = q - 1 := u64_in (by omega) (by omega)
      have e5 : IntKind.u64.wrap (r + IntKind.u64.wrap y1) = r + y1 := by rw [u64_in (n := y1) (by omega) (by omega), u64_in (by omega) (by omega)]
      have hs2 : (q - 1) * y1 + (r + y1) = x1 * 4294967296 + x2 := by
        have : (q - 1) * y1 = q * y1 - y1 := by grind
        omega
      have hub3 : N < (q - 1 + 1) * D := by rwa [show q - 1 + 1 = q by omega]
      by_cases hb : r + y1 > 4294967295
      · have hq2 : q - 1 ≤ 4294967295 := by
          rcases Int.lt_or_le (q - 1) 4294967296 with h | h
          · omega
          · have h3 := Int.mul_le_mul_of_nonneg_right h (show 0 ≤ y1 by omega)
            omega
        refine ⟨q - 1, ?_, by omega, hq2, ?_, hub3⟩
        · refine Ev.step (fun k => nat_guess.j1.eq_2 _ _ _ _ _ _ _ k) ?_
          simp only [E3.out, rd_nat, ey1, e4, e5]
          exact ev_pos trivial (ev_pos (Int.natCast_nonneg _) (ev_pos l3 (ev_pos hb (ev_now rfl))))
        · refine hfar (q - 1) (r + y1) (by omega) hq2 hs2 ?_
          have := mul_bound (show 0 ≤ q - 1 by omega) hq2 hY2.1 (show y2 ≤ 4294967295 by omega)
          omega
      · obtain ⟨g, hg, h1, h2, h3, h4⟩ := ih (q - 1) (r + y1) (by omega) (by omega) (by omega) (by omega) hs2 hub3
        refine ⟨g, ?_, h1, h2, h3, h4⟩
        refine Ev.step (fun k => nat_guess.j1.eq_2 _ _ _ _ _ _ _ k) ?_
        simp only [E3.out, rd_nat, ey1, e4, e5]
        exact ev_pos trivial (ev_pos (Int.natCast_nonneg _) (ev_pos l3 (ev_neg hb hg)))
    by_cases c1 : q > 4294967295
    · obtain ⟨g, hg, h⟩ := dec (by
        have := Int.mul_le_mul_of_nonneg_right (show 4294967296 ≤ q by omega) hD0
        omega)
      refine ⟨g, ?_, h⟩
      refine Ev.step (fun k => nat_guess.l0.eq_2 _ _ _ _ _ _ k) ?_
      exact ev_pos c1 hg
    · by_cases c2 : q * y2 > r * 4294967296 + x3
      · obtain ⟨g, hg, h⟩ := dec (hgreat q r (by omega) hsum (by omega))
        exact ⟨g, head q r true c1 hr0 hr1 hqy0 hqy2 (decide_eq_true c2) hg, h⟩
      · exact ⟨q, head q r false c1 hr0 hr1 hqy0 hqy2 (decide_eq_false c2) (stop _ _), by omega, by omega, hfar q r (by omega) (by omega) hsum (by omega), hub⟩
end Go.Proofs.YtamhiecepipnjaaDoor.GApproxNear
