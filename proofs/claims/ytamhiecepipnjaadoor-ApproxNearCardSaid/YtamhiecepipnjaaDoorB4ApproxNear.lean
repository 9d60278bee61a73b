/- What approx's printed functions tell: bits, power, number, half, next, below, above, Float. -/
import Derived.Test.YtamhiecepipnjaaDoorB3ApproxNear
namespace Go.Proofs.YtamhiecepipnjaaDoor.GApproxNear
open Go.RowKit Go.Proofs.YtamhiecepipnjaaDoorW.PrintWords Go.Proofs.YtamhiecepipnjaaDoorW.PrintLast Go.Proofs.YtamhiecepipnjaaDoorW.PrintMore Go.Proofs.YtamhiecepipnjaaDoor.Pl
set_option linter.unusedVariables false
set_option linter.unusedSimpArgs false

theorem W_P2 (n : Nat) : W n = P2 (32 * n) := by
  induction n with
  | zero => rfl
  | succ n ih => rw [W_succ, ih, show 32 * (n + 1) = 32 + 32 * n from by omega, P2_add]; rfl
theorem bits_nil : nat_Bits.f [] = some 0 := by
  unfold nat_Bits.f
  rw [right_f]; rfl
theorem bits_f {l : List Int} (h : IsNat l) (h0 : l ≠ []) : ∃ s : Nat, nat_Bits.f l = some ((s : Int) + 1) ∧ P2 s ≤ V l ∧ V l < P2 (s + 1) ∧ s < 32 * l.length := by
  obtain ⟨n, hn⟩ : ∃ n, l.length = n + 1 := ⟨l.length - 1, by have := List.length_pos_iff.2 h0; omega⟩
  have hl := h.2.2
  have hx := h.1.getD n
  have hx0 : l.getD n 0 ≠ 0 := by
    have := (nrm_iff l h0).1 h.2.1
    rwa [show l.length - 1 = n from by omega] at this
  obtain ⟨t, ht, ht1, ht2, ht3⟩ := len32_f (a := l.getD n 0) (by omega) hx.2
  have hv := V_split_last l n hn
  have hlow := V_nonneg (h.1.take n)
  have hlow2 := V_lt (h.1.take n)
  rw [List.length_take, Nat.min_eq_left (by omega)] at hlow2
  have hW := W_pos n
  refine ⟨32 * n + t, ?_, ?_, ?_, by omega⟩
  · unfold nat_Bits.f
    rw [right_nat h]
    simp only [Option.bind_some]
    have e : wrap64 ((l.length : Int) - 1) = (n : Int) := by rw [w64 (by omega) (by omega)]; omega
    rw [if_pos True.intro, if_neg (by omega), e, if_pos (by omega), if_pos (by omega), rd_nat, ht]
    simp only [Option.bind_some]
    rw [w64 (n := 32 * (n : Int)) (by omega) (by omega), w64 (by omega) (by omega)]
    congr 1
  · rw [hv, P2_add, ← W_P2]
    have : W n * P2 t ≤ W n * l.getD n 0 := Int.mul_le_mul_of_nonneg_left ht2 (by omega)
    omega
  · rw [hv, show 32 * n + t + 1 = 32 * n + (t + 1) from rfl, P2_add, ← W_P2]
    have : W n * (l.getD n 0 + 1) ≤ W n * P2 (t + 1) := Int.mul_le_mul_of_nonneg_left (by have : P2 (t + 1) = 2 ^ (t + 1) := rfl; omega) (by omega)
    rw [Int.mul_add, Int.mul_one] at this
    omega
theorem rep_set (x : Int) : ∀ m : Nat, (List.replicate (m + 1) (0 : Int)).set m x = List.replicate m 0 ++ [x]
  | 0 => rfl
  | m + 1 => by rw [List.replicate_succ, List.set_cons_succ, rep_set x m, List.replicate_succ]; rfl
theorem power_f {n : Nat} (hn : n ≤ 2000) : ∃ p, approx_power.f (n : Int) = some p ∧ IsNat p ∧ V p = P2 n ∧ p ≠ [] := by
  have hp : (0 : Int) < 2 ^ (n % 32) := Int.pow_pos (by decide)
  have hsu : n % 32 + (32 - n % 32) = 32 := by omega
  have hp1 : (2 : Int) ^ (n % 32) < 4294967296 := by
    have e := pow_pq hsu
    have h2 : (2 : Int) ≤ 2 ^ (32 - n % 32) := by
      have : P2 1 ≤ P2 (32 - n % 32) := P2_mono (by omega)
      exact this
    have := Int.mul_le_mul_of_nonneg_left h2 (Int.le_of_lt hp)
    omega
  have e1 : Int.tdiv (n : Int) 32 = ((n / 32 : Nat) : Int) := by rw [Int.tdiv_eq_ediv_of_nonneg (by omega)]; rfl
  have e2 : Int.tmod (n : Int) 32 = ((n % 32 : Nat) : Int) := by rw [Int.tmod_eq_emod_of_nonneg (by omega)]; rfl
  have e3 : wrap64 ((n / 32 : Nat) : Int) = ((n / 32 : Nat) : Int) := w64 (by omega) (by omega)
  have e4 : wrap64 (((n / 32 : Nat) : Int) + 1) = ((n / 32 + 1 : Nat) : Int) := by rw [w64 (by omega) (by omega)]; omega
  have e5 : shl .u32 1 ((n % 32 : Nat) : Int) = 2 ^ (n % 32) := by
    rw [shl32 hsu (by decide)]
    have h2 : (2 : Int) ≤ 2 ^ (32 - n % 32) := by
      have : P2 1 ≤ P2 (32 - n % 32) := P2_mono (by omega)
      exact this
    rw [Int.emod_eq_of_lt (by decide) (by omega), Int.one_mul]
  refine ⟨List.replicate (n / 32) 0 ++ [2 ^ (n % 32)], ?_, ⟨?_, ?_, ?_⟩, ?_, by simp⟩
  · unfold approx_power.f
    rw [e1, e2, e3, e4, e5, if_pos (by omega), Int.toNat_natCast, if_pos (by omega)]
    simp only [Option.bind_some]
    rw [if_pos (by omega), if_pos (by omega), if_pos (by rw [List.length_replicate]; omega), Int.toNat_natCast, rep_set]
  · exact (Wf.replicate _).append (Wf.cons (by omega) hp1 Wf.nil)
  · intro x hx
    rw [List.getLast?_append] at hx
    simp at hx
    omega
  · rw [List.length_append, List.length_replicate]; simp; omega
  · rw [V_app, V_zeros, List.length_replicate, W_P2]
    have : V [(2 : Int) ^ (n % 32)] = P2 (n % 32) := by simp [V, P2]
    rw [this, ← P2_add, show 32 * (n / 32) + n % 32 = n from by omega]; omega
theorem number_f {l : List Int} (h : IsNat l) (hv : V l < 18446744073709551616) : Ev (fun k => approx_number.f k l) (V l) := by
  have hlen : l.length ≤ 2 := len_le h.1 h.2.1 (m := 2) (by rw [show W 2 = 18446744073709551616 from by decide]; exact hv)
  rcases l with _ | ⟨x, _ | ⟨y, _ | ⟨z, l⟩⟩⟩
  · refine Ev.step (fun k => approx_number.l0.eq_2 _ _ _ _ k) ?_
    exact ev_neg (by simp) (ev_now rfl)
  · have hx := h.1.head
    refine Ev.step (fun k => approx_number.l0.eq_2 _ _ _ _ k) ?_
    refine ev_pos (by simp) (ev_pos (by decide) (ev_pos (by simp) (ev_pos (by decide +kernel) ?_)))
    refine Ev.step (fun k => approx_number.l0.eq_2 _ _ _ _ k) ?_
    rw [show wrap64 (0 + 1) = 1 from by decide +kernel]
    refine ev_neg (by simp) (ev_now ?_)
    have e1 : rd [x] 0 = x := by simp [rd]
    rw [e1, u64_in hx.1 (by omega), show wrap64 (32 * 0) = ((0 : Nat) : Int) from by decide +kernel, shl64 (by decide) hx.1 hx.2]
    rw [bits_join .u64 64 (by decide) (fun n h0 h1 => u64_in h0 h1) 32 0 _ (by omega) (by omega) (by omega) (by omega) (by omega) (by omega)]
    simp [V]
  · have hx := h.1.head
    have hy := h.1.tail.head
    refine Ev.step (fun k => approx_number.l0.eq_2 _ _ _ _ k) ?_
    refine ev_pos (by simp) (ev_pos (by decide) (ev_pos (by simp) (ev_pos (by decide +kernel) ?_)))
    refine Ev.step (fun k => approx_number.l0.eq_2 _ _ _ _ k) ?_
    have w1 : wrap64 (0 + 1) = 1 := by decide +kernel
    rw [w1]
    refine ev_pos (by simp) (ev_pos (by decide) (ev_pos (by simp) (ev_pos (by decide +kernel) ?_)))
    refine Ev.step (fun k => approx_number.l0.eq_2 _ _ _ _ k) ?_
    rw [show wrap64 (1 + 1) = 2 from by decide +kernel]
    refine ev_neg (by simp) (ev_now ?_)
    have e1 : rd [x, y] 0 = x := by simp [rd]
    have e2 : rd [x, y] 1 = y := by simp [rd]
    rw [e1, e2, u64_in hx.1 (by omega), u64_in hy.1 (by omega), show wrap64 (32 * 0) = ((0 : Nat) : Int) from by decide +kernel, show wrap64 (32 * 1) = ((32 : Nat) : Int) from by decide +kernel, shl64 (by decide) hx.1 hx.2, shl64 (by decide) hy.1 hy.2]
    rw [bits_join .u64 64 (by decide) (fun n h0 h1 => u64_in h0 h1) 32 0 _ (by omega) (by omega) (by omega) (by omega) (by omega) (by omega)]
    rw [or_comm .u64 64 (by decide) (fun n h0 h1 => u64_in h0 h1) (by omega) (by omega) (by omega) (by omega)]
    rw [bits_join .u64 64 (by decide) (fun n h0 h1 => u64_in h0 h1) 32 _ _ (by omega) (by omega) (by omega) (by omega) (by omega) (by omega)]
    simp [V]
    omega
  · simp at hlen
theorem half_f {r d : List Int} (hr : IsNat r) (hd : IsNat d) (h : V r < V d) : Ev (fun k => approx_half.f k r d) (sgn (V r) (V d - V r)) := by
  obtain ⟨t, ht, htv, hte⟩ := sub_f hd hr (Int.le_of_lt h)
  refine ev_bind hte (ev_bindr (cmp_f hr ht) ?_)
  rw [htv]
theorem next_f {r d : List Int} (hr : IsNat r) (hd : IsNat d) (h : V r < V d) : ∃ r' b, IsNat r' ∧ (b = 0 ∨ b = 1) ∧ b * V d + V r' = 2 * V r ∧ V r' < V d ∧ Ev (fun k => approx_next.f k r d) (r', b) := by
  obtain ⟨t, ht, htv, hte⟩ := sub_f hd hr (Int.le_of_lt h)
  have h0 := V_nonneg hr.1
  by_cases hc : V r < V t
  · obtain ⟨s, hs, hsn, hsv, hse⟩ := add_f hr hr
    have hl : s.length ≤ 64 := Nat.le_trans (len_lt_of_V_lt hs hd.1 hsn (by omega)) hd.2.2
    rw [if_neg (by omega)] at hse
    refine ⟨s, 0, ⟨hs, hsn, hl⟩, .inl rfl, by omega, by omega, ev_bind hte (ev_bind (cmp_f hr ht) (ev_neg ?_ (ev_bindr hse rfl)))⟩
    rw [sgn_lt hc]; decide
  · obtain ⟨s, hs, hsv, hse⟩ := sub_f hr ht (by omega)
    refine ⟨s, 1, hs, .inr rfl, by omega, by omega, ev_bind hte (ev_bind (cmp_f hr ht) (ev_pos ?_ (ev_bindr hse rfl)))⟩
    have := (not_congr (sgn_neg (x := V r) (y := V t))).2 hc
    show sgn (V r) (V t) ≥ 0
    omega
theorem below_l0 {d : List Int} (hd : IsNat d) : ∀ (n u q : Nat) (r : List Int), n + u = 1074 → IsNat r → V r < V d → q < 9007199254740992 →
    ∃ (q' u' : Nat) (R : Int), u ≤ u' ∧ u' ≤ 1074 ∧ q' < 9007199254740992 ∧ (4503599627370496 ≤ q' ∨ u' = 1074) ∧ 0 ≤ R ∧ R < V d ∧ (q * V d + V r) * P2 (u' - u) = q' * V d + R ∧
      Ev (fun k => approx_below.l0 k r d (q : Int) (-(u : Int))) ((q' : Int), -(u' : Int), sgn R (V d - R)) := by
  intro n
  induction n with
  | zero =>
    intro u q r hu hr hlt hq
    refine ⟨q, u, V r, Nat.le_refl _, by omega, hq, .inr (by omega), V_nonneg hr.1, hlt, by rw [Nat.sub_self, P2_zero]; omega, ?_⟩
    refine Ev.step (fun k => approx_below.l0.eq_2 _ _ _ _ k) ?_
    by_cases h1 : (q : Int) < 4503599627370496
    · exact ev_pos h1 (ev_neg (by omega) (ev_bindr (half_f hr hd hlt) rfl))
    · exact ev_neg h1 (ev_bindr (half_f hr hd hlt) rfl)
  | succ n ih =>
    intro u q r hu hr hlt hq
    by_cases h1 : (q : Int) < 4503599627370496
    · obtain ⟨s, b, hs, hb, hsum, hslt, hse⟩ := next_f hr hd hlt
      have e1 : Go.bits .or .u64 (IntKind.u64.wrap ((q : Int) * 2)) b = ((2 * q + b.toNat : Nat) : Int) := by
        rw [u64_in (by omega) (by omega)]
        rw [bits_join .u64 64 (by decide) (fun n h0 h1 => u64_in h0 h1) 1 _ _ (by omega) (by omega) (by omega) (by omega) (by omega) (by omega)]
        omega
      have e2 : wrap64 (-(u : Int) - 1) = -((u + 1 : Nat) : Int) := by rw [w64 (by omega) (by omega)]; omega
      obtain ⟨q', u', R, h2, h3, h4, h5, h6, h7, h8, h9⟩ := ih (u + 1) (2 * q + b.toNat) s (by omega) hs hslt (by omega)
      refine ⟨q', u', R, by omega, h3, h4, h5, h6, h7, ?_, ?_⟩
      · rw [← h8, show u' - u = u' - (u + 1) + 1 from by omega, P2_succ]
        have e3 : (((2 * q + b.toNat : Nat) : Int) * V d + V s) = 2 * ((q : Int) * V d + V r) := by
          have : ((2 * q + b.toNat : Nat) : Int) = 2 * q + b := by omega
          rw [this, Int.mul_add, ← hsum]; grind
        rw [e3]; grind
      · refine Ev.step (fun k => approx_below.l0.eq_2 _ _ _ _ k) ?_
        refine ev_pos h1 (ev_pos (by omega) (ev_bind hse ?_))
        simp only
        rw [e1, e2]; exact h9
    · refine ⟨q, u, V r, Nat.le_refl _, by omega, hq, .inl (by omega), V_nonneg hr.1, hlt, by rw [Nat.sub_self, P2_zero]; omega, ?_⟩
      refine Ev.step (fun k => approx_below.l0.eq_2 _ _ _ _ k) ?_
      exact ev_neg h1 (ev_bindr (half_f hr hd hlt) rfl)
/-- How a rest stands to half of what it is a rest of. -/
def Stands (c R D : Int) : Prop := (c > 0 ↔ 2 * R > D) ∧ (c = 0 ↔ 2 * R = D)
theorem stands_half (R D : Int) : Stands (sgn R (D - R)) R D := by
  unfold Stands sgn
  split
  · omega
  · split <;> omega
theorem above_f {i r d : List Int} (hi : IsNat i) (hr : IsNat r) (hd : IsNat d) (hlt : V r < V d) {s : Nat} (hb : nat_Bits.f i = some ((s : Int) + 1)) (h52 : 52 ≤ s) (hs : s < 2048) (hlo : P2 s ≤ V i) (hhi : V i < P2 (s + 1)) :
    ∃ (q : Nat) (c R : Int), 4503599627370496 ≤ q ∧ q < 9007199254740992 ∧ 0 ≤ R ∧ R < V d * P2 (s - 52) ∧ V i * V d + V r = q * (V d * P2 (s - 52)) + R ∧ Stands c R (V d * P2 (s - 52)) ∧
      Ev (fun k => approx_above.f k i r d) ((q : Int), ((s - 52 : Nat) : Int), c) := by
  have hr0 := V_nonneg hr.1
  have hi0 := V_nonneg hi.1
  obtain ⟨u, hu⟩ : ∃ u, s = u + 52 := ⟨s - 52, by omega⟩
  subst hu
  rw [show u + 52 - 52 = u from by omega]
  have eu : wrap64 ((((u + 52 : Nat) : Int) + 1) - 53) = (u : Int) := by rw [w64 (by omega) (by omega)]; omega
  rw [P2_add] at hlo
  rw [show u + 52 + 1 = u + 53 from rfl, P2_add] at hhi
  rw [show P2 52 = 4503599627370496 from by decide] at hlo
  rw [show P2 53 = 9007199254740992 from by decide] at hhi
  have hP := P2_pos u
  rcases Nat.eq_zero_or_pos u with hz | hz
  · subst hz
    rw [P2_zero] at *
    refine ⟨(V i).toNat, sgn (V r) (V d - V r), V r, by omega, by omega, hr0, by omega, ?_, ?_, ?_⟩
    · rw [Int.mul_one, Int.toNat_of_nonneg hi0]
    · rw [Int.mul_one]; exact stands_half _ _
    · refine ev_bindc hb ?_
      rw [eu]
      refine ev_pos rfl (ev_bind (number_f hi (by omega)) (ev_bindr (half_f hr hd hlt) ?_))
      rw [Int.toNat_of_nonneg hi0]; rfl
  · obtain ⟨p, hpe, hp, hpv, hp0⟩ := power_f (n := u) (by omega)
    obtain ⟨p', hpe', hp', hpv', hp0'⟩ := power_f (n := u - 1) (by omega)
    obtain ⟨Q, L, hQ, hL, hQv, hLv, hde⟩ := div_f hi hp hp0
    rw [hpv] at hQv hLv
    have hsum : V Q * P2 u + V L = V i := by rw [hQv, hLv, Int.mul_comm]; exact Int.mul_ediv_add_emod _ _
    have hL0 : 0 ≤ V L := V_nonneg hL.1
    have hL1 : V L < P2 u := by rw [hLv]; exact Int.emod_lt_of_pos _ hP
    have hQ0 : 4503599627370496 ≤ V Q := by
      have : (4503599627370496 : Int) < V Q + 1 := by
        refine lt_cancel hP ?_
        rw [Int.add_mul, Int.one_mul, Int.mul_comm 4503599627370496]; omega
      omega
    have hQ1 : V Q < 9007199254740992 := by
      refine lt_cancel hP ?_
      rw [Int.mul_comm 9007199254740992]; omega
    have hhalf : P2 u = 2 * P2 (u - 1) := by
      rw [← P2_succ, show u - 1 + 1 = u from by omega]
    have hdp : 0 < V d := by omega
    have hR : V L * V d + V r < V d * P2 u := by
      have : (V L + 1) * V d ≤ P2 u * V d := Int.mul_le_mul_of_nonneg_right hL1 (by omega)
      rw [Int.add_mul, Int.one_mul, Int.mul_comm (P2 u)] at this
      omega
    have hLd : 0 ≤ V L * V d := Int.mul_nonneg hL0 (by omega)
    have heq : V i * V d + V r = ((V Q).toNat : Int) * (V d * P2 u) + (V L * V d + V r) := by
      rw [Int.toNat_of_nonneg (by omega), ← hsum]; grind
    have eu1 : wrap64 ((u : Int) - 1) = ((u - 1 : Nat) : Int) := by rw [w64 (by omega) (by omega)]; omega
    have hdP : V d * P2 u = 2 * (P2 (u - 1) * V d) := by rw [hhalf]; grind
    -- the three ways
    have key : ∀ c : Int, Stands c (V L * V d + V r) (V d * P2 u) → Ev (fun k => (nat_Cmp.f k L p').bind fun t327 => (if t327 = 0 then (if (r.length : Int) > 0 then ((approx_number.f k Q).bind fun t328 => (some (t328, (u : Int), (1 : Int)))) else ((approx_number.f k Q).bind fun t329 => (some (t329, (u : Int), t327)))) else ((approx_number.f k Q).bind fun t330 => (some (t330, (u : Int), t327))))) (((V Q).toNat : Int), (u : Int), c) →
        ∃ (q : Nat) (c R : Int), 4503599627370496 ≤ q ∧ q < 9007199254740992 ∧ 0 ≤ R ∧ R < V d * P2 u ∧ V i * V d + V r = q * (V d * P2 u) + R ∧ Stands c R (V d * P2 u) ∧ Ev (fun k => approx_above.f k i r d) ((q : Int), (u : Int), c) := by
      intro c hc hev
      refine ⟨(V Q).toNat, c, V L * V d + V r, by omega, by omega, by omega, hR, heq, hc, ?_⟩
      refine ev_bindc hb ?_
      rw [eu, eu1]
      exact ev_neg (by omega) (ev_bindc hpe (ev_bind hde (ev_bindc hpe' hev)))
    have hnum := number_f hQ (by omega)
    have hq : V Q = ((V Q).toNat : Int) := (Int.toNat_of_nonneg (by omega)).symm
    rw [hq] at hnum
    rcases Int.lt_trichotomy (V L) (P2 (u - 1)) with hc | hc | hc
    · refine key (-1) ?_ (ev_bind (cmp_f hL hp') ?_)
      · have : (V L + 1) * V d ≤ P2 (u - 1) * V d := Int.mul_le_mul_of_nonneg_right hc (by omega)
        rw [Int.add_mul, Int.one_mul] at this
        unfold Stands; omega
      · rw [hpv', sgn_lt hc]
        exact ev_neg (by decide) (ev_bindr hnum rfl)
    · rcases Int.lt_or_eq_of_le hr0 with hr1 | hr1
      · refine key 1 ?_ (ev_bind (cmp_f hL hp') ?_)
        · rw [← hc] at hdP
          unfold Stands; omega
        · rw [hpv', hc, sgn_eq]
          refine ev_pos rfl (ev_pos ?_ (ev_bindr hnum rfl))
          have := List.length_pos_iff.2 (ne_nil_of_pos hr1)
          omega
      · refine key 0 ?_ (ev_bind (cmp_f hL hp') ?_)
        · rw [← hc] at hdP
          unfold Stands; omega
        · rw [hpv', hc, sgn_eq]
          refine ev_pos rfl (ev_neg ?_ (ev_bindr hnum rfl))
          have : r = [] := by
            rcases Classical.em (r = []) with h | h
            · exact h
            · have := hr.2.1.pos hr.1 h; omega
          rw [this]; simp
    · refine key 1 ?_ (ev_bind (cmp_f hL hp') ?_)
      · have : (P2 (u - 1) + 1) * V d ≤ V L * V d := Int.mul_le_mul_of_nonneg_right hc (by omega)
        rw [Int.add_mul, Int.one_mul] at this
        unfold Stands; omega
      · rw [hpv', sgn_gt hc]
        exact ev_neg (by decide) (ev_bindr hnum rfl)
end Go.Proofs.YtamhiecepipnjaaDoor.GApproxNear
