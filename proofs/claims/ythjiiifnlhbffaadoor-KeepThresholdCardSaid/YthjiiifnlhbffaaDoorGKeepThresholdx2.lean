-- Written by gprint (wip/gprint), this session's program over the kit's print. Not trusted: Lean checks it.
import Derived.Test.YthjiiifnlhbffaaDoorGKeepThresholdx0
import Derived.Test.YthjiiifnlhbffaaDoorGKeepThresholdx1
namespace Go.Proofs.YthjiiifnlhbffaaDoor.GKeepThreshold
open Go.RowKit Go.Proofs.YthjiiifnlhbffaaDoorW.PrintWords Go.Proofs.YthjiiifnlhbffaaDoorW.PrintLast Go.Proofs.YthjiiifnlhbffaaDoorW.PrintMore
attribute [local go_sem] max2_int min2_int max_two min_two max_three min_three max_four min_four   -- for this text's walks alone
set_option linter.unusedVariables false
set_option linter.unusedSimpArgs false

/-! ### keep_Right: function 5 -/
section
open Go.Proofs.YthjiiifnlhbffaaDoor.KR
def keep_Right.T7 : Bool × List (List Nat × List Nat) := (true, [([], []), ([0], [0]), ([1], [1]), ([2, 1], [2]), ([3], [3]), ([3], [3]), ([5, 3], [3, 5]), ([4, 6, 3], [3, 4, 6]), ([7, 3], [3, 7]), ([3, 8], [3, 8]), ([9, 3], [9]), ([10], [10]), ([11, 10], [10, 11]), ([12, 10, 10], [10, 12]), ([13], [13]), ([13], [13]), ([15, 13], [13, 15]), ([14, 16, 13], [13, 14, 16]), ([17, 13], [13, 17]), ([13], [13]), ([18, 19, 13, 13], [13, 18, 19]), ([20, 13], [13, 20]), ([13, 21, 10], [10, 13, 21]), ([10, 22], [10, 22])])
def keep_Right.B7 : List Nat := [0, 1, 3, 7, 15, 15, 47, 127, 255, 511, 1023, 2047, 4095, 8191, 16383, 16383, 49151, 131071, 262143, 16383, 1048575, 2097151, 4194303, 8388607]
theorem keep_Right.tab7 : rtab .any (opsOf Tryd.f5 7) = keep_Right.T7 := by kernel_rfl
theorem keep_Right.bits7 : waitsOk keep_Right.T7.2 keep_Right.B7 = true := by kernel_rfl
def keep_Right.seen (l : List S25) (i : Nat) (s : ByteArray) : Bool := (l.take i).any fun y => y.f0.toList == s.toList
def keep_Right.go (k : Nat) (l : List S25) : Nat → Nat → Option Bool
  | 0, _ => some true
  | n + 1, i => (rank_Check.f (rd_T25 l i).f0 (rd_T25 l i).f1 (rd_T25 l i).f2).bind fun t => if t = 0 then (if keep_Right.seen l i (rd_T25 l i).f0 = true then some false else (if i = 0 then keep_Right.go k l n (i + 1) else
      ((rank_Cmp.f k (rd_T25 l ((i - 1 : Nat) : Int)).f0 (rd_T25 l ((i - 1 : Nat) : Int)).f1 (rd_T25 l ((i - 1 : Nat) : Int)).f2 (rd_T25 l i).f0 (rd_T25 l i).f1 (rd_T25 l i).f2).bind fun c => if c > 0 then some false else keep_Right.go k l n (i + 1)))) else some false
def keep_Right.f (k : Nat) (a0 : Int) (l1 : List S25) : Option Bool := (keep_fits.f a0).bind fun t => if t = true then (if (l1.length : Int) > wrap64 (a0 + 1) then some false else keep_Right.go k l1 l1.length 0) else some false
theorem keep_Right.mono_go (k : Nat) (l : List S25) : ∀ n i, LeO (keep_Right.go k l n i) (keep_Right.go (k + 1) l n i)
  | 0, _ => LeO.refl _
  | n + 1, i => by
    unfold keep_Right.go
    refine LeO.bind (LeO.refl _) fun t => LeO.ite (LeO.ite (LeO.refl _) (LeO.ite (keep_Right.mono_go k l n (i + 1)) (LeO.bind (rank_Cmp.mono _ _ _ _ _ _ _) fun c => LeO.ite (LeO.refl _) (keep_Right.mono_go k l n (i + 1))))) (LeO.refl _)
theorem keep_Right.mono : ∀ a0 a1 k, LeO (keep_Right.f k a0 a1) (keep_Right.f (k + 1) a0 a1) := fun a0 a1 k => by
  unfold keep_Right.f
  exact LeO.bind (LeO.refl _) fun t => LeO.ite (LeO.ite (LeO.refl _) (keep_Right.mono_go k a1 _ _)) (LeO.refl _)
theorem keep_Right.law : Maps.Keyed Tryd.prog 9 := Maps.string_keyed Tryd.underlying9
theorem keep_Right.zero (w : World) : (zeroValue 3).run Tryd.prog w = .ok (.int .i64 0) w := by kernel_rfl
/-- What the map tells, of i items that are there. -/
structure keep_Right.Tells (l : List S25) (i : Nat) (D : DataW Unit) : Prop where
  isMap : Maps.IsMap D
  tells : ∀ s : ByteArray, D.atKey (.string s.data.toList) (.lit (.int .i64 0)) = .lit (.int .i64 (if keep_Right.seen l i s = true then 1 else 0))
theorem keep_Right.tells_zero (l : List S25) : keep_Right.Tells l 0 (.map []) := ⟨⟨[], rfl⟩, fun s => by simp [keep_Right.seen, DataW.atKey]⟩
theorem keep_Right.seen_succ (l : List S25) (i : Nat) (hi : i < l.length) (s : ByteArray) : keep_Right.seen l (i + 1) s = (keep_Right.seen l i s || ((rd_T25 l i).f0.toList == s.toList)) := by
  unfold keep_Right.seen
  rw [List.take_succ_eq_append_getElem hi, List.any_append]
  simp [rd_T25, List.getElem?_eq_getElem hi]
theorem keep_Right.tells_succ {l : List S25} {i : Nat} {D : DataW Unit} (h : keep_Right.Tells l i D) (hi : i < l.length) (hs : keep_Right.seen l i (rd_T25 l i).f0 = false) : keep_Right.Tells l (i + 1) (D.put (.string (rd_T25 l i).f0.data.toList) (.lit (.int .i64 1))) := by
  refine ⟨h.isMap.put _ _, fun s => ?_⟩
  rw [keep_Right.seen_succ l i hi]
  by_cases e : s.data.toList = (rd_T25 l i).f0.data.toList
  · rw [e, Maps.atKey_put_same h.isMap (by simp [WideAt.IsKeyLit])]
    simp [ByteArray.toList_eq, e]
  · rw [Maps.atKey_put_other (by simpa using e), h.tells s]
    have e2 : ((rd_T25 l i).f0.toList == s.toList) = false := by simp only [ByteArray.toList_eq, beq_eq_false_iff_ne]; exact fun h => e h.symm
    rw [e2, Bool.or_false]
theorem keep_Right.lit_inj {a b : Int} (h : (DataW.lit (.int .i64 a) : DataW Unit) = .lit (.int .i64 b)) : a = b := by
  injection h with h
  injection h
theorem keep_Right.ob {w w' : World} {b n : Nat} {D : DataW Unit} (h : w.ownsMap Tryd.prog 9 (plainElem Tryd.prog 3) b n D) (hb : Below w.heap.size w w') : w'.ownsMap Tryd.prog 9 (plainElem Tryd.prog 3) b n D := by
  have hlt := h.lt
  obtain ⟨es, cl, h1, h2⟩ := h
  exact ⟨es, cl, (hb.block b hlt).trans h1, h2⟩
theorem keep_Right.look {w : World} {b n : Nat} {D : DataW Unit} {l : List S25} {i : Nat} {s : ByteArray} {v : Int} (h : w.ownsMap Tryd.prog 9 (plainElem Tryd.prog 3) b n D) (hD : keep_Right.Tells l i D) (hs : s.size ≤ 64) (hv : (if keep_Right.seen l i s = true then (1 : Int) else 0) = v) :
    (Instr.lookup 46 (.map (some b)) (.string s) false).run Tryd.prog w = .ok (.int .i64 v) w := by
  obtain ⟨c, hrun, hat, _⟩ := h.lookup_int keep_Right.law Tryd.underlying46 Tryd.underlying3 (keep_Right.zero w) (Go.WideMaps.keyOf_string_mk Tryd.underlying9 (s := s) (Nat.le_trans hs (by unfold maxLen; omega)))
  subst hv
  have hat2 := (hD.tells s).symm.trans hat
  have hat3 := keep_Right.lit_inj hat2
  clear hat hat2
  subst hat3
  exact hrun
theorem keep_Right.short {x : ByteArray} {a b : Int} (h : rank_Check.f x a b = some 0) : x.size ≤ 64 := by
  unfold rank_Check.f at h
  by_cases h1 : (x.size : Int) > 64
  · rw [if_pos h1] at h; cases h
  · omega
theorem keep_Right.keepd {W : World} {p : Addr} {v : Value} (h : W.cell? p = some v) : W.drew.cell? p = some v := h
theorem keep_Right.keepc {W w' : World} {p : Addr} {v : Value} (hb : Below W.heap.size W w') (h : W.cell? p = some v) : w'.cell? p = some v := (hb.cell (World.block_lt_of_cell? W p h)).trans h
set_option maxHeartbeats 4000000 in
set_option maxRecDepth 100000 in
theorem keep_Right.walk (k : Nat) (a0 : Int) (A1 : Option Addr) (c1 : Nat) (l1 : List S25) (r : Bool) (w : World) (hr1 : Kd.C k25 w A1 l1.length l1) (hc1 : l1.length ≤ c1) (hf : keep_fits.f a0 = some true) (hl : ¬ (l1.length : Int) > wrap64 (a0 + 1)) (h : keep_Right.go k l1 l1.length 0 = some r) :
    Calls Tryd.prog 5 #[.int .i64 a0, .slice A1 l1.length c1] w fun e w' => e = .returned (.bool r) ∧ Below w.heap.size w w' := by
  have hm : l1.length ≤ 9223372036854775807 := hr1.2.1
  have HR := Aside0.mk hr1
  have HG := Aside0.mk h
  have HF := Aside0.mk hf
  clear hr1 h hf
  obtain ⟨n, hn⟩ : ∃ n, n = l1.length := ⟨_, rfl⟩
  have HN := Aside0.mk hn
  rw [← hn] at hm hc1 hl ⊢
  clear hn
  have hmm := @run_makeMap Tryd.prog
  have hl2 : decide (wrap64 (a0 + 1) < (n : Int)) = false := decide_eq_false hl
  clear hl
  go_enter Tryd.func5, Tryd.ntmps5
  go_wp2_with (go_at_call 13; refine (keep_fits.calls a0 true _ HF.out).mono ?_; rintro e w' ⟨rfl, ⟨nd, rfl⟩⟩)
  go_loopg [21] n (fun gg s21 wr => ∃ kk : Nat, kk ≤ n ∧ n - kk ≤ gg ∧ s21 = .int .i64 kk ∧ Aside0 (Below w.heap.size w wr) ∧ Aside0 (keep_Right.go k l1 (n - kk) kk = some r) ∧ Aside0 (∃ D, wr.ownsMap Tryd.prog 9 (plainElem Tryd.prog 3) w.heap.size kk D ∧ keep_Right.Tells l1 kk D))
  case atStart => exact ⟨0, Nat.zero_le _, by omega, rfl, ⟨below_alloc (pw_below_drewN (Below.refl _ _) _) _⟩, ⟨by rw [Nat.sub_zero, HN.out]; exact HG.out⟩, ⟨_, World.ownsMap_made _ _ _ _, keep_Right.tells_zero l1⟩⟩
  case round =>
    obtain ⟨kk, hkk, hg, rfl, BW, HGo, HM⟩ := hrel
    by_cases hlt : kk < n
    · have hltz : (kk : Int) < (n : Int) := by omega
      have hlt2 : (kk : Int) < (l1.length : Int) := by rw [← HN.out]; exact hltz
      obtain ⟨ad, eA, h0, h1, h2⟩ := at_T25 (Kd.C_below HR.out BW.out) (kk : Int) (by omega) hlt2
      subst eA
      rw [Int.toNat_natCast] at h0 h1 h2
      have HC := Aside0.mk (Kd.C_below HR.out BW.out)
      obtain ⟨m, hm1⟩ : ∃ m, n - kk = m + 1 := ⟨n - kk - 1, by omega⟩
      have hgo := HGo.out
      rw [hm1] at hgo
      unfold keep_Right.go at hgo
      obtain ⟨t, ht, hgo⟩ := Option.bind_eq_some_iff.1 hgo
      obtain ⟨D, hown, hD⟩ := HM.out
      have HO := Aside0.mk hown
      have HD := Aside0.mk hD
      have HK := Aside0.mk hgo
      have HT := Aside0.mk ht
      have HM1 := Aside0.mk hm1
      clear hgo hown hD ht HM HGo hm1
      generalize hy : rd_T25 l1 kk = y at *
      have HY2 := Aside0.mk hy
      clear hy
      have BA := Aside0.mk (below_alloc BW.out (.cells #[.string y.f0, .int .u64 y.f1, .int .u64 y.f2] 25))
      have HX := Aside0.mk (heap_alloc_new wr (.cells #[.string y.f0, .int .u64 y.f1, .int .u64 y.f2] 25))
      obtain ⟨g, hg1⟩ : ∃ g, wr.heap.size = g := ⟨_, rfl⟩
      rw [hg1] at HX
      go_wp2
      have HO1 := Aside0.mk (HO.out.alloc (.cells #[.string y.f0, .int .u64 y.f1, .int .u64 y.f2] 25))
      have HC1 := Aside0.mk (Kd.C_alloc HC.out (.cells #[.string y.f0, .int .u64 y.f1, .int .u64 y.f2] 25))
      clear HO HC h0 h1 h2 BW
      have HO := HO1; have HC := HC1
      clear HO1 HC1 hg1
      generalize wr.alloc (.cells #[.string y.f0, .int .u64 y.f1, .int .u64 y.f2] 25) = W at BA HX HO HC ⊢
      have hgo := HK.out
      clear HK
      generalize hki : (kk : Int) = ki at *
      have HKI := Aside0.mk hki
      have hk1 : 0 ≤ ki := by omega
      by_cases ht0 : t = 0
      · rw [if_pos ht0] at hgo
        have HS := Aside0.mk (keep_Right.short (ht0 ▸ HT.out))
        have ht1 : (t != 0) = false := bne_eq_false_iff_eq.mpr ht0
        clear ht0
        by_cases hsn : keep_Right.seen l1 kk y.f0 = true
        · rw [if_pos hsn] at hgo
          obtain rfl : false = r := Option.some.inj hgo
          clear hgo
          have HQ := Aside0.mk (show (if keep_Right.seen l1 kk y.f0 = true then (1 : Int) else 0) = 1 from if_pos hsn)
          clear hsn
          have n0_ := Aside0.mk (blk_drew HX.out)
          have n1_ := Aside0.mk (below_drew1 BA.out)
          have n2_ := Aside0.mk HO.out.drew
          clear HX BA HO
          have HX := n0_; have BA := n1_; have HO := n2_
          clear n0_ n1_ n2_
          refine start_ (n := 24) (S := fun w' => w'.cell? ⟨g, 0, none⟩ = some (.string y.f0) ∧ w'.cell? ⟨g, 1, none⟩ = some (.int .u64 y.f1) ∧ w'.cell? ⟨g, 2, none⟩ = some (.int .u64 y.f2) ∧ (Instr.lookup 46 (.map (some w.heap.size)) (.string y.f0) false).run Tryd.prog w' = .ok (.int .i64 1) w') (ds := []) #[false, false, false, false, false, false, false, false, false, false, false, false, false, false, false, false, false, false, false, false, false, false, false, false] (by kernel_rfl) rfl rfl ⟨(blk_cell HX.out 0).trans rfl, (blk_cell HX.out 1).trans rfl, (blk_cell HX.out 2).trans rfl, keep_Right.look HO.out HD.out HS.out HQ.out⟩ (fun hHeld => ?_); refine with_tabW keep_Right.tab7 keep_Right.bits7 (fun HT_ HW_ => ?_)
          generalize W.drew = W0 at BA HX HO hHeld ⊢
          refine take_ (i := 0) (N := some 26) (v := ?_) (a' := ?_) #[true, false, false, false, false, false, false, false, false, false, false, false, false, false, false, false, false, false, false, false, false, false, false, false] rfl rfl (take_ofW HT_.out HW_.out (by kernel_rfl)) (fun _ _ _ h => h) (Or.inl ⟨by rfl, ?_⟩) hHeld ?_ ?_
          rotate_left
          · rintro w' ⟨s0, s1, s2, s3⟩
            go_simp
            with_reducible rfl
          rotate_left
          · simp only [Act.put, List.setIfInBounds_toArray, List.set_cons_zero, List.set_cons_succ, i64_w, i32_w]
            rfl
          refine one_ (i := 1) (N := some 27) #[true, true, false, false, false, false, false, false, false, false, false, false, false, false, false, false, false, false, false, false, false, false, false, false] rfl rfl (one_of HT_.out (by kernel_rfl)) (by decide) (fun K hK => ?_)
          refine goes_ Tryd.func6 (by kernel_rfl) rfl #[.agg #[.string y.f0, .int .u64 y.f1, .int .u64 y.f2]] (by rfl) rfl rfl (by (try simp only [List.map_toArray, List.map_cons, List.map_nil]); first | done | rfl) ?_
          with_reducible refine (rank_Check.calls y.f0 y.f1 y.f2 t _ HT.out).mono ?_
          rintro e wn ⟨rfl, hb⟩
          refine ⟨_, rfl, ?_⟩
          have n0_ := Aside0.mk (blk_below HX.out hb)
          have n1_ := Aside0.mk (below_step BA.out hb)
          have n2_ := Aside0.mk (keep_Right.ob HO.out hb)
          clear HX BA HO
          have HX := n0_; have BA := n1_; have HO := n2_
          clear n0_ n1_ n2_ hb
          refine hK.out _ _ ⟨(blk_cell HX.out 0).trans rfl, (blk_cell HX.out 1).trans rfl, (blk_cell HX.out 2).trans rfl, keep_Right.look HO.out HD.out HS.out HQ.out⟩ (fun hHeld => ?_)
          clear hK K
          refine norm_ (a' := ?_) ?_ ?_
          rotate_left
          · show Act.put _ (some 27) _ = _
            simp only [Act.put, List.setIfInBounds_toArray, List.set_cons_zero, List.set_cons_succ, i64_w, i32_w]
            rfl
          refine pure_ (i := 2) (N := some 28) (v := ?_) (a' := ?_) #[true, true, true, false, false, false, false, false, false, false, false, false, false, false, false, false, false, false, false, false, false, false, false, false] rfl rfl (any_of HT_.out (by kernel_rfl)) (fun _ _ _ h => h) (Or.inl ⟨by rfl, ?_⟩) ?_ ?_
          rotate_left
          · intro w'
            go_simp
            with_reducible rfl
          rotate_left
          · simp only [Act.put, List.setIfInBounds_toArray, List.set_cons_zero, List.set_cons_succ, i64_w, i32_w]
            rfl
          refine pure_ (i := 3) (N := some 29) (v := ?_) (a' := ?_) #[true, true, true, true, false, false, false, false, false, false, false, false, false, false, false, false, false, false, false, false, false, false, false, false] rfl rfl (any_of HT_.out (by kernel_rfl)) (fun _ _ _ h => h) (Or.inl ⟨by rfl, ?_⟩) ?_ ?_
          rotate_left
          · intro w'
            go_simp
            with_reducible rfl
          rotate_left
          · simp only [Act.put, List.setIfInBounds_toArray, List.set_cons_zero, List.set_cons_succ, i64_w, i32_w]
            rfl
          refine pure_ (i := 4) (N := some 30) (v := ?_) (a' := ?_) #[true, true, true, true, true, false, false, false, false, false, false, false, false, false, false, false, false, false, false, false, false, false, false, false] rfl rfl (any_of HT_.out (by kernel_rfl)) (fun _ _ _ h => h) (Or.inl ⟨by rfl, ?_⟩) ?_ ?_
          rotate_left
          · intro w'
            go_simp
            with_reducible rfl
          rotate_left
          · simp only [Act.put, List.setIfInBounds_toArray, List.set_cons_zero, List.set_cons_succ, i64_w, i32_w]
            rfl
          refine pure_ (i := 5) (N := some 31) (v := ?_) (a' := ?_) #[true, true, true, true, true, true, false, false, false, false, false, false, false, false, false, false, false, false, false, false, false, false, false, false] rfl rfl (any_of HT_.out (by kernel_rfl)) (fun _ _ _ h => h) (Or.inl ⟨by rfl, ?_⟩) ?_ ?_
          rotate_left
          · intro w'
            go_simp
            with_reducible rfl
          rotate_left
          · simp only [Act.put, List.setIfInBounds_toArray, List.set_cons_zero, List.set_cons_succ, i64_w, i32_w]
            rfl
          refine take_ (i := 6) (N := some 32) (v := ?_) (a' := ?_) #[true, true, true, true, true, true, true, false, false, false, false, false, false, false, false, false, false, false, false, false, false, false, false, false] rfl rfl (take_ofW HT_.out HW_.out (by kernel_rfl)) (fun _ _ _ h => h) (Or.inl ⟨by rfl, ?_⟩) hHeld ?_ ?_
          rotate_left
          · rintro w' ⟨s0, s1, s2, s3⟩
            go_simp
            with_reducible rfl
          rotate_left
          · simp only [Act.put, List.setIfInBounds_toArray, List.set_cons_zero, List.set_cons_succ, i64_w, i32_w]
            rfl
          refine take_ (i := 7) (N := some 33) (v := ?_) (a' := ?_) #[true, true, true, true, true, true, true, true, false, false, false, false, false, false, false, false, false, false, false, false, false, false, false, false] rfl rfl (take_ofW HT_.out HW_.out (by kernel_rfl)) (fun _ _ _ h => h) (Or.inl ⟨by rfl, ?_⟩) hHeld ?_ ?_
          rotate_left
          · rintro w' ⟨s0, s1, s2, s3⟩
            go_simp
            with_reducible rfl
          rotate_left
          · simp only [Act.put, List.setIfInBounds_toArray, List.set_cons_zero, List.set_cons_succ, i64_w, i32_w]
            rfl
          refine pure_ (i := 8) (N := some 34) (v := ?_) (a' := ?_) #[true, true, true, true, true, true, true, true, true, false, false, false, false, false, false, false, false, false, false, false, false, false, false, false] rfl rfl (any_of HT_.out (by kernel_rfl)) (fun _ _ _ h => h) (Or.inl ⟨by rfl, ?_⟩) ?_ ?_
          rotate_left
          · intro w'
            go_simp
            with_reducible rfl
          rotate_left
          · simp only [Act.put, List.setIfInBounds_toArray, List.set_cons_zero, List.set_cons_succ, i64_w, i32_w]
            rfl
          refine pure_ (i := 9) (N := some 35) (v := ?_) (a' := ?_) #[true, true, true, true, true, true, true, true, true, true, false, false, false, false, false, false, false, false, false, false, false, false, false, false] rfl rfl (any_of HT_.out (by kernel_rfl)) (fun _ _ _ h => h) (Or.inl ⟨by rfl, ?_⟩) ?_ ?_
          rotate_left
          · intro w'
            go_simp
            with_reducible rfl
          rotate_left
          · simp only [Act.put, List.setIfInBounds_toArray, List.set_cons_zero, List.set_cons_succ, i64_w, i32_w]
            rfl
          refine pure_ (i := 10) (N := some 36) (v := ?_) (a' := ?_) #[true, true, true, true, true, true, true, true, true, true, true, false, false, false, false, false, false, false, false, false, false, false, false, false] rfl rfl (any_of HT_.out (by kernel_rfl)) (fun _ _ _ h => h) (Or.inl ⟨by rfl, ?_⟩) ?_ ?_
          rotate_left
          · intro w'
            go_simp
            with_reducible rfl
          rotate_left
          · simp only [Act.put, List.setIfInBounds_toArray, List.set_cons_zero, List.set_cons_succ, i64_w, i32_w]
            rfl
          refine pure_ (i := 11) (N := some 37) (v := undef) (a' := ?_) #[true, true, true, true, true, true, true, true, true, true, true, true, false, false, false, false, false, false, false, false, false, false, false, false] rfl rfl (any_of HT_.out (by kernel_rfl)) (fun _ _ _ h => h) (Or.inr ⟨by rfl, rfl⟩) ?_ ?_
          rotate_left
          · simp only [Act.put, List.setIfInBounds_toArray, List.set_cons_zero, List.set_cons_succ, i64_w, i32_w]
            rfl
          refine pure_ (i := 12) (N := some 38) (v := undef) (a' := ?_) #[true, true, true, true, true, true, true, true, true, true, true, true, true, false, false, false, false, false, false, false, false, false, false, false] rfl rfl (any_of HT_.out (by kernel_rfl)) (fun _ _ _ h => h) (Or.inr ⟨by rfl, rfl⟩) ?_ ?_
          rotate_left
          · simp only [Act.put, List.setIfInBounds_toArray, List.set_cons_zero, List.set_cons_succ, i64_w, i32_w]
            rfl
          refine pure_ (i := 13) (N := some 39) (v := undef) (a' := ?_) #[true, true, true, true, true, true, true, true, true, true, true, true, true, true, false, false, false, false, false, false, false, false, false, false] rfl rfl (any_of HT_.out (by kernel_rfl)) (fun _ _ _ h => h) (Or.inr ⟨by rfl, rfl⟩) ?_ ?_
          rotate_left
          · simp only [Act.put, List.setIfInBounds_toArray, List.set_cons_zero, List.set_cons_succ, i64_w, i32_w]
            rfl
          refine pure_ (i := 14) (N := some 40) (v := undef) (a' := ?_) #[true, true, true, true, true, true, true, true, true, true, true, true, true, true, true, false, false, false, false, false, false, false, false, false] rfl rfl (any_of HT_.out (by kernel_rfl)) (fun _ _ _ h => h) (Or.inr ⟨by rfl, rfl⟩) ?_ ?_
          rotate_left
          · simp only [Act.put, List.setIfInBounds_toArray, List.set_cons_zero, List.set_cons_succ, i64_w, i32_w]
            rfl
          refine pure_ (i := 15) (N := some 41) (v := undef) (a' := ?_) #[true, true, true, true, true, true, true, true, true, true, true, true, true, true, true, true, false, false, false, false, false, false, false, false] rfl rfl (any_of HT_.out (by kernel_rfl)) (fun _ _ _ h => h) (Or.inr ⟨by rfl, rfl⟩) ?_ ?_
          rotate_left
          · simp only [Act.put, List.setIfInBounds_toArray, List.set_cons_zero, List.set_cons_succ, i64_w, i32_w]
            rfl
          refine pure_ (i := 16) (N := some 42) (v := undef) (a' := ?_) #[true, true, true, true, true, true, true, true, true, true, true, true, true, true, true, true, true, false, false, false, false, false, false, false] rfl rfl (any_of HT_.out (by kernel_rfl)) (fun _ _ _ h => h) (Or.inr ⟨by rfl, rfl⟩) ?_ ?_
          rotate_left
          · simp only [Act.put, List.setIfInBounds_toArray, List.set_cons_zero, List.set_cons_succ, i64_w, i32_w]
            rfl
          refine pure_ (i := 17) (N := some 43) (v := undef) (a' := ?_) #[true, true, true, true, true, true, true, true, true, true, true, true, true, true, true, true, true, true, false, false, false, false, false, false] rfl rfl (any_of HT_.out (by kernel_rfl)) (fun _ _ _ h => h) (Or.inr ⟨by rfl, rfl⟩) ?_ ?_
          rotate_left
          · simp only [Act.put, List.setIfInBounds_toArray, List.set_cons_zero, List.set_cons_succ, i64_w, i32_w]
            rfl
          refine pure_ (i := 18) (N := some 44) (v := undef) (a' := ?_) #[true, true, true, true, true, true, true, true, true, true, true, true, true, true, true, true, true, true, true, false, false, false, false, false] rfl rfl (any_of HT_.out (by kernel_rfl)) (fun _ _ _ h => h) (Or.inr ⟨by rfl, rfl⟩) ?_ ?_
          rotate_left
          · simp only [Act.put, List.setIfInBounds_toArray, List.set_cons_zero, List.set_cons_succ, i64_w, i32_w]
            rfl
          refine pure_ (i := 19) (N := some 45) (v := undef) (a' := ?_) #[true, true, true, true, true, true, true, true, true, true, true, true, true, true, true, true, true, true, true, true, false, false, false, false] rfl rfl (any_of HT_.out (by kernel_rfl)) (fun _ _ _ h => h) (Or.inr ⟨by rfl, rfl⟩) ?_ ?_
          rotate_left
          · simp only [Act.put, List.setIfInBounds_toArray, List.set_cons_zero, List.set_cons_succ, i64_w, i32_w]
            rfl
          refine pure_ (i := 20) (N := some 46) (v := undef) (a' := ?_) #[true, true, true, true, true, true, true, true, true, true, true, true, true, true, true, true, true, true, true, true, true, false, false, false] rfl rfl (any_of HT_.out (by kernel_rfl)) (fun _ _ _ h => h) (Or.inr ⟨by rfl, rfl⟩) ?_ ?_
          rotate_left
          · simp only [Act.put, List.setIfInBounds_toArray, List.set_cons_zero, List.set_cons_succ, i64_w, i32_w]
            rfl
          refine pure_ (i := 21) (N := some 47) (v := undef) (a' := ?_) #[true, true, true, true, true, true, true, true, true, true, true, true, true, true, true, true, true, true, true, true, true, true, false, false] rfl rfl (any_of HT_.out (by kernel_rfl)) (fun _ _ _ h => h) (Or.inr ⟨by rfl, rfl⟩) ?_ ?_
          rotate_left
          · simp only [Act.put, List.setIfInBounds_toArray, List.set_cons_zero, List.set_cons_succ, i64_w, i32_w]
            rfl
          refine pure_ (i := 22) (N := some 48) (v := undef) (a' := ?_) #[true, true, true, true, true, true, true, true, true, true, true, true, true, true, true, true, true, true, true, true, true, true, true, false] rfl rfl (any_of HT_.out (by kernel_rfl)) (fun _ _ _ h => h) (Or.inr ⟨by rfl, rfl⟩) ?_ ?_
          rotate_left
          · simp only [Act.put, List.setIfInBounds_toArray, List.set_cons_zero, List.set_cons_succ, i64_w, i32_w]
            rfl
          refine pure_ (i := 23) (N := some 49) (v := ?_) (a' := ?_) #[true, true, true, true, true, true, true, true, true, true, true, true, true, true, true, true, true, true, true, true, true, true, true, true] rfl rfl (any_of HT_.out (by kernel_rfl)) (fun _ _ _ h => h) (Or.inl ⟨by rfl, ?_⟩) ?_ ?_
          rotate_left
          · intro w'
            go_simp
            with_reducible rfl
          rotate_left
          · simp only [Act.put, List.setIfInBounds_toArray, List.set_cons_zero, List.set_cons_succ, i64_w, i32_w]
            rfl
          refine done_ (done_of HT_.out (by kernel_rfl)) ?_
          go_wp2
          go_ret
          exact ⟨rfl, BA.out⟩
        · rw [if_neg hsn] at hgo
          have hsf : keep_Right.seen l1 kk y.f0 = false := by simpa using hsn
          have HQ := Aside0.mk (show (if keep_Right.seen l1 kk y.f0 = true then (1 : Int) else 0) = 0 from if_neg hsn)
          have HSN := Aside0.mk hsf
          clear hsn hsf
          by_cases hk0 : kk = 0
          · rw [if_pos hk0] at hgo
            have HGo := Aside0.mk hgo
            have hki0 : ki = 0 := by omega
            have hkd : decide (0 < ki) = false := decide_eq_false (by omega)
            clear hgo hki0
            have n0_ := Aside0.mk (blk_drew HX.out)
            have n1_ := Aside0.mk (below_drew1 BA.out)
            have n2_ := Aside0.mk HO.out.drew
            clear HX BA HO
            have HX := n0_; have BA := n1_; have HO := n2_
            clear n0_ n1_ n2_
            refine start_ (n := 24) (S := fun w' => w'.cell? ⟨g, 0, none⟩ = some (.string y.f0) ∧ w'.cell? ⟨g, 1, none⟩ = some (.int .u64 y.f1) ∧ w'.cell? ⟨g, 2, none⟩ = some (.int .u64 y.f2) ∧ (Instr.lookup 46 (.map (some w.heap.size)) (.string y.f0) false).run Tryd.prog w' = .ok (.int .i64 0) w') (ds := []) #[false, false, false, false, false, false, false, false, false, false, false, false, false, false, false, false, false, false, false, false, false, false, false, false] (by kernel_rfl) rfl rfl ⟨(blk_cell HX.out 0).trans rfl, (blk_cell HX.out 1).trans rfl, (blk_cell HX.out 2).trans rfl, keep_Right.look HO.out HD.out HS.out HQ.out⟩ (fun hHeld => ?_); refine with_tabW keep_Right.tab7 keep_Right.bits7 (fun HT_ HW_ => ?_)
            generalize W.drew = W0 at BA HX HO hHeld ⊢
            refine take_ (i := 0) (N := some 26) (v := ?_) (a' := ?_) #[true, false, false, false, false, false, false, false, false, false, false, false, false, false, false, false, false, false, false, false, false, false, false, false] rfl rfl (take_ofW HT_.out HW_.out (by kernel_rfl)) (fun _ _ _ h => h) (Or.inl ⟨by rfl, ?_⟩) hHeld ?_ ?_
            rotate_left
            · rintro w' ⟨s0, s1, s2, s3⟩
              go_simp
              with_reducible rfl
            rotate_left
            · simp only [Act.put, List.setIfInBounds_toArray, List.set_cons_zero, List.set_cons_succ, i64_w, i32_w]
              rfl
            refine one_ (i := 1) (N := some 27) #[true, true, false, false, false, false, false, false, false, false, false, false, false, false, false, false, false, false, false, false, false, false, false, false] rfl rfl (one_of HT_.out (by kernel_rfl)) (by decide) (fun K hK => ?_)
            refine goes_ Tryd.func6 (by kernel_rfl) rfl #[.agg #[.string y.f0, .int .u64 y.f1, .int .u64 y.f2]] (by rfl) rfl rfl (by (try simp only [List.map_toArray, List.map_cons, List.map_nil]); first | done | rfl) ?_
            with_reducible refine (rank_Check.calls y.f0 y.f1 y.f2 t _ HT.out).mono ?_
            rintro e wn ⟨rfl, hb⟩
            refine ⟨_, rfl, ?_⟩
            have n0_ := Aside0.mk (blk_below HX.out hb)
            have n1_ := Aside0.mk (below_step BA.out hb)
            have n2_ := Aside0.mk (keep_Right.ob HO.out hb)
            clear HX BA HO
            have HX := n0_; have BA := n1_; have HO := n2_
            clear n0_ n1_ n2_ hb
            refine hK.out _ _ ⟨(blk_cell HX.out 0).trans rfl, (blk_cell HX.out 1).trans rfl, (blk_cell HX.out 2).trans rfl, keep_Right.look HO.out HD.out HS.out HQ.out⟩ (fun hHeld => ?_)
            clear hK K
            refine norm_ (a' := ?_) ?_ ?_
            rotate_left
            · show Act.put _ (some 27) _ = _
              simp only [Act.put, List.setIfInBounds_toArray, List.set_cons_zero, List.set_cons_succ, i64_w, i32_w]
              rfl
            refine pure_ (i := 2) (N := some 28) (v := ?_) (a' := ?_) #[true, true, true, false, false, false, false, false, false, false, false, false, false, false, false, false, false, false, false, false, false, false, false, false] rfl rfl (any_of HT_.out (by kernel_rfl)) (fun _ _ _ h => h) (Or.inl ⟨by rfl, ?_⟩) ?_ ?_
            rotate_left
            · intro w'
              go_simp
              with_reducible rfl
            rotate_left
            · simp only [Act.put, List.setIfInBounds_toArray, List.set_cons_zero, List.set_cons_succ, i64_w, i32_w]
              rfl
            refine pure_ (i := 3) (N := some 29) (v := ?_) (a' := ?_) #[true, true, true, true, false, false, false, false, false, false, false, false, false, false, false, false, false, false, false, false, false, false, false, false] rfl rfl (any_of HT_.out (by kernel_rfl)) (fun _ _ _ h => h) (Or.inl ⟨by rfl, ?_⟩) ?_ ?_
            rotate_left
            · intro w'
              go_simp
              with_reducible rfl
            rotate_left
            · simp only [Act.put, List.setIfInBounds_toArray, List.set_cons_zero, List.set_cons_succ, i64_w, i32_w]
              rfl
            refine pure_ (i := 4) (N := some 30) (v := ?_) (a' := ?_) #[true, true, true, true, true, false, false, false, false, false, false, false, false, false, false, false, false, false, false, false, false, false, false, false] rfl rfl (any_of HT_.out (by kernel_rfl)) (fun _ _ _ h => h) (Or.inl ⟨by rfl, ?_⟩) ?_ ?_
            rotate_left
            · intro w'
              go_simp
              with_reducible rfl
            rotate_left
            · simp only [Act.put, List.setIfInBounds_toArray, List.set_cons_zero, List.set_cons_succ, i64_w, i32_w]
              rfl
            refine pure_ (i := 5) (N := some 31) (v := ?_) (a' := ?_) #[true, true, true, true, true, true, false, false, false, false, false, false, false, false, false, false, false, false, false, false, false, false, false, false] rfl rfl (any_of HT_.out (by kernel_rfl)) (fun _ _ _ h => h) (Or.inl ⟨by rfl, ?_⟩) ?_ ?_
            rotate_left
            · intro w'
              go_simp
              with_reducible rfl
            rotate_left
            · simp only [Act.put, List.setIfInBounds_toArray, List.set_cons_zero, List.set_cons_succ, i64_w, i32_w]
              rfl
            refine take_ (i := 6) (N := some 32) (v := ?_) (a' := ?_) #[true, true, true, true, true, true, true, false, false, false, false, false, false, false, false, false, false, false, false, false, false, false, false, false] rfl rfl (take_ofW HT_.out HW_.out (by kernel_rfl)) (fun _ _ _ h => h) (Or.inl ⟨by rfl, ?_⟩) hHeld ?_ ?_
            rotate_left
            · rintro w' ⟨s0, s1, s2, s3⟩
              go_simp
              with_reducible rfl
            rotate_left
            · simp only [Act.put, List.setIfInBounds_toArray, List.set_cons_zero, List.set_cons_succ, i64_w, i32_w]
              rfl
            refine take_ (i := 7) (N := some 33) (v := ?_) (a' := ?_) #[true, true, true, true, true, true, true, true, false, false, false, false, false, false, false, false, false, false, false, false, false, false, false, false] rfl rfl (take_ofW HT_.out HW_.out (by kernel_rfl)) (fun _ _ _ h => h) (Or.inl ⟨by rfl, ?_⟩) hHeld ?_ ?_
            rotate_left
            · rintro w' ⟨s0, s1, s2, s3⟩
              go_simp
              with_reducible rfl
            rotate_left
            · simp only [Act.put, List.setIfInBounds_toArray, List.set_cons_zero, List.set_cons_succ, i64_w, i32_w]
              rfl
            refine pure_ (i := 8) (N := some 34) (v := ?_) (a' := ?_) #[true, true, true, true, true, true, true, true, true, false, false, false, false, false, false, false, false, false, false, false, false, false, false, false] rfl rfl (any_of HT_.out (by kernel_rfl)) (fun _ _ _ h => h) (Or.inl ⟨by rfl, ?_⟩) ?_ ?_
            rotate_left
            · intro w'
              go_simp
              with_reducible rfl
            rotate_left
            · simp only [Act.put, List.setIfInBounds_toArray, List.set_cons_zero, List.set_cons_succ, i64_w, i32_w]
              rfl
            refine pure_ (i := 9) (N := some 35) (v := ?_) (a' := ?_) #[true, true, true, true, true, true, true, true, true, true, false, false, false, false, false, false, false, false, false, false, false, false, false, false] rfl rfl (any_of HT_.out (by kernel_rfl)) (fun _ _ _ h => h) (Or.inl ⟨by rfl, ?_⟩) ?_ ?_
            rotate_left
            · intro w'
              go_simp
              with_reducible rfl
            rotate_left
            · simp only [Act.put, List.setIfInBounds_toArray, List.set_cons_zero, List.set_cons_succ, i64_w, i32_w]
              rfl
            refine pure_ (i := 10) (N := some 36) (v := ?_) (a' := ?_) #[true, true, true, true, true, true, true, true, true, true, true, false, false, false, false, false, false, false, false, false, false, false, false, false] rfl rfl (any_of HT_.out (by kernel_rfl)) (fun _ _ _ h => h) (Or.inl ⟨by rfl, ?_⟩) ?_ ?_
            rotate_left
            · intro w'
              go_simp
              with_reducible rfl
            rotate_left
            · simp only [Act.put, List.setIfInBounds_toArray, List.set_cons_zero, List.set_cons_succ, i64_w, i32_w]
              rfl
            refine pure_ (i := 11) (N := some 37) (v := ?_) (a' := ?_) #[true, true, true, true, true, true, true, true, true, true, true, true, false, false, false, false, false, false, false, false, false, false, false, false] rfl rfl (any_of HT_.out (by kernel_rfl)) (fun _ _ _ h => h) (Or.inl ⟨by rfl, ?_⟩) ?_ ?_
            rotate_left
            · intro w'
              go_simp
              with_reducible rfl
            rotate_left
            · simp only [Act.put, List.setIfInBounds_toArray, List.set_cons_zero, List.set_cons_succ, i64_w, i32_w]
              rfl
            refine pure_ (i := 12) (N := some 38) (v := ?_) (a' := ?_) #[true, true, true, true, true, true, true, true, true, true, true, true, true, false, false, false, false, false, false, false, false, false, false, false] rfl rfl (any_of HT_.out (by kernel_rfl)) (fun _ _ _ h => h) (Or.inl ⟨by rfl, ?_⟩) ?_ ?_
            rotate_left
            · intro w'
              go_simp
              with_reducible rfl
            rotate_left
            · simp only [Act.put, List.setIfInBounds_toArray, List.set_cons_zero, List.set_cons_succ, i64_w, i32_w]
              rfl
            refine pure_ (i := 13) (N := some 39) (v := ?_) (a' := ?_) #[true, true, true, true, true, true, true, true, true, true, true, true, true, true, false, false, false, false, false, false, false, false, false, false] rfl rfl (any_of HT_.out (by kernel_rfl)) (fun _ _ _ h => h) (Or.inl ⟨by rfl, ?_⟩) ?_ ?_
            rotate_left
            · intro w'
              go_simp
              with_reducible rfl
            rotate_left
            · simp only [Act.put, List.setIfInBounds_toArray, List.set_cons_zero, List.set_cons_succ, i64_w, i32_w]
              rfl
            refine pure_ (i := 14) (N := some 40) (v := undef) (a' := ?_) #[true, true, true, true, true, true, true, true, true, true, true, true, true, true, true, false, false, false, false, false, false, false, false, false] rfl rfl (any_of HT_.out (by kernel_rfl)) (fun _ _ _ h => h) (Or.inr ⟨by rfl, rfl⟩) ?_ ?_
            rotate_left
            · simp only [Act.put, List.setIfInBounds_toArray, List.set_cons_zero, List.set_cons_succ, i64_w, i32_w]
              rfl
            refine pure_ (i := 15) (N := some 41) (v := undef) (a' := ?_) #[true, true, true, true, true, true, true, true, true, true, true, true, true, true, true, true, false, false, false, false, false, false, false, false] rfl rfl (any_of HT_.out (by kernel_rfl)) (fun _ _ _ h => h) (Or.inr ⟨by rfl, rfl⟩) ?_ ?_
            rotate_left
            · simp only [Act.put, List.setIfInBounds_toArray, List.set_cons_zero, List.set_cons_succ, i64_w, i32_w]
              rfl
            refine pure_ (i := 16) (N := some 42) (v := undef) (a' := ?_) #[true, true, true, true, true, true, true, true, true, true, true, true, true, true, true, true, true, false, false, false, false, false, false, false] rfl rfl (any_of HT_.out (by kernel_rfl)) (fun _ _ _ h => h) (Or.inr ⟨by rfl, rfl⟩) ?_ ?_
            rotate_left
            · simp only [Act.put, List.setIfInBounds_toArray, List.set_cons_zero, List.set_cons_succ, i64_w, i32_w]
              rfl
            refine pure_ (i := 17) (N := some 43) (v := undef) (a' := ?_) #[true, true, true, true, true, true, true, true, true, true, true, true, true, true, true, true, true, true, false, false, false, false, false, false] rfl rfl (any_of HT_.out (by kernel_rfl)) (fun _ _ _ h => h) (Or.inr ⟨by rfl, rfl⟩) ?_ ?_
            rotate_left
            · simp only [Act.put, List.setIfInBounds_toArray, List.set_cons_zero, List.set_cons_succ, i64_w, i32_w]
              rfl
            refine pure_ (i := 18) (N := some 44) (v := undef) (a' := ?_) #[true, true, true, true, true, true, true, true, true, true, true, true, true, true, true, true, true, true, true, false, false, false, false, false] rfl rfl (any_of HT_.out (by kernel_rfl)) (fun _ _ _ h => h) (Or.inr ⟨by rfl, rfl⟩) ?_ ?_
            rotate_left
            · simp only [Act.put, List.setIfInBounds_toArray, List.set_cons_zero, List.set_cons_succ, i64_w, i32_w]
              rfl
            refine pure_ (i := 19) (N := some 45) (v := undef) (a' := ?_) #[true, true, true, true, true, true, true, true, true, true, true, true, true, true, true, true, true, true, true, true, false, false, false, false] rfl rfl (any_of HT_.out (by kernel_rfl)) (fun _ _ _ h => h) (Or.inr ⟨by rfl, rfl⟩) ?_ ?_
            rotate_left
            · simp only [Act.put, List.setIfInBounds_toArray, List.set_cons_zero, List.set_cons_succ, i64_w, i32_w]
              rfl
            refine pure_ (i := 20) (N := some 46) (v := undef) (a' := ?_) #[true, true, true, true, true, true, true, true, true, true, true, true, true, true, true, true, true, true, true, true, true, false, false, false] rfl rfl (any_of HT_.out (by kernel_rfl)) (fun _ _ _ h => h) (Or.inr ⟨by rfl, rfl⟩) ?_ ?_
            rotate_left
            · simp only [Act.put, List.setIfInBounds_toArray, List.set_cons_zero, List.set_cons_succ, i64_w, i32_w]
              rfl
            refine pure_ (i := 21) (N := some 47) (v := undef) (a' := ?_) #[true, true, true, true, true, true, true, true, true, true, true, true, true, true, true, true, true, true, true, true, true, true, false, false] rfl rfl (any_of HT_.out (by kernel_rfl)) (fun _ _ _ h => h) (Or.inr ⟨by rfl, rfl⟩) ?_ ?_
            rotate_left
            · simp only [Act.put, List.setIfInBounds_toArray, List.set_cons_zero, List.set_cons_succ, i64_w, i32_w]
              rfl
            refine pure_ (i := 22) (N := some 48) (v := ?_) (a' := ?_) #[true, true, true, true, true, true, true, true, true, true, true, true, true, true, true, true, true, true, true, true, true, true, true, false] rfl rfl (any_of HT_.out (by kernel_rfl)) (fun _ _ _ h => h) (Or.inl ⟨by rfl, ?_⟩) ?_ ?_
            rotate_left
            · intro w'
              go_simp
              with_reducible rfl
            rotate_left
            · simp only [Act.put, List.setIfInBounds_toArray, List.set_cons_zero, List.set_cons_succ, i64_w, i32_w]
              rfl
            refine pure_ (i := 23) (N := some 49) (v := ?_) (a' := ?_) #[true, true, true, true, true, true, true, true, true, true, true, true, true, true, true, true, true, true, true, true, true, true, true, true] rfl rfl (any_of HT_.out (by kernel_rfl)) (fun _ _ _ h => h) (Or.inl ⟨by rfl, ?_⟩) ?_ ?_
            rotate_left
            · intro w'
              go_simp
              with_reducible rfl
            rotate_left
            · simp only [Act.put, List.setIfInBounds_toArray, List.set_cons_zero, List.set_cons_succ, i64_w, i32_w]
              rfl
            refine done_ (done_of HT_.out (by kernel_rfl)) ?_
            have hlk := keep_Right.look HO.out HD.out HS.out HQ.out
            have hb0 : wn.cell? ⟨g, 0, none⟩ = some (.string y.f0) := (blk_cell HX.out 0).trans rfl
            have hkey := Go.WideMaps.keyOf_string_mk Tryd.underlying9 (s := y.f0) (Nat.le_trans HS.out (by unfold maxLen; omega))
            go_wp2_with (at_mapUpdate; refine wpList_mapUpdate_own _ rfl _ _ _ 46 rfl 9 3 keep_Right.law Tryd.underlying46 _ w.heap.size kk _ rfl HO.out (by unfold maxLen; omega) _ _ _ rfl rfl hkey _ [] (plainElem_int Tryd.underlying3 (by decide)) ?_; intro w1 hown1 hgrow1)
            go_roundg (n - (kk + 1))
            case measure => omega
            case rel => exact ⟨kk + 1, by omega, by omega, by rw [← HKI.out]; go_num, ⟨BA.out.grown hgrow1 BA.out.size (fun j hj => by cases hj; exact Nat.le_refl _)⟩, ⟨by rw [show n - (kk + 1) = m from by have := HM1.out; omega]; exact HGo.out⟩, ⟨_, hown1, by have h := keep_Right.tells_succ HD.out (by have := HN.out; omega) (by rw [HKI.out, HY2.out]; exact HSN.out); rw [HKI.out, HY2.out] at h; exact h⟩⟩
          · rw [if_neg hk0] at hgo
            have hkd : decide (0 < ki) = true := decide_eq_true (by omega)
            obtain ⟨c, hcm, hgo⟩ := Option.bind_eq_some_iff.1 hgo
            obtain ⟨jp, hjp⟩ : ∃ jp, wrap64 (ki - 1) = jp := ⟨_, rfl⟩
            have hjv : jp = ki - 1 := by rw [← hjp]; unfold wrap64; omega
            have hjn : ((kk - 1 : Nat) : Int) = jp := by omega
            rw [hjn] at hcm
            have hjw : IntKind.i64.wrap (ki - 1) = jp := (i64_w _).trans hjp
            obtain ⟨ad2, e2, p0, p1, p2⟩ := at_T25 HC.out jp (by omega) (by omega)
            obtain rfl : ad = ad2 := Option.some.inj e2
            have hp := eq_true (show 0 ≤ jp by omega)
            have hq := eq_true (show jp < (n : Int) by omega)
            generalize rd_T25 l1 jp = z at p0 p1 p2 hcm
            have HCM := Aside0.mk hcm; have HP0 := Aside0.mk p0; have HP1 := Aside0.mk p1; have HP2 := Aside0.mk p2
            clear hcm p0 p1 p2 e2 hjv hjn hjp hk0
            have n0_ := Aside0.mk (blk_drew HX.out)
            have n1_ := Aside0.mk (below_drew1 BA.out)
            have n2_ := Aside0.mk HO.out.drew
            have n3_ := Aside0.mk (keep_Right.keepd HP0.out)
            have n4_ := Aside0.mk (keep_Right.keepd HP1.out)
            have n5_ := Aside0.mk (keep_Right.keepd HP2.out)
            clear HX BA HO HP0 HP1 HP2
            have HX := n0_; have BA := n1_; have HO := n2_; have HP0 := n3_; have HP1 := n4_; have HP2 := n5_
            clear n0_ n1_ n2_ n3_ n4_ n5_
            refine start_ (n := 24) (S := fun w' => w'.cell? ⟨g, 0, none⟩ = some (.string y.f0) ∧ w'.cell? ⟨g, 1, none⟩ = some (.int .u64 y.f1) ∧ w'.cell? ⟨g, 2, none⟩ = some (.int .u64 y.f2) ∧ (Instr.lookup 46 (.map (some w.heap.size)) (.string y.f0) false).run Tryd.prog w' = .ok (.int .i64 0) w' ∧ w'.cell? (ad.add (jp.toNat * 3)) = some (.string z.f0) ∧ w'.cell? ⟨(ad.add (jp.toNat * 3)).block, (ad.add (jp.toNat * 3)).off + 1, none⟩ = some (.int .u64 z.f1) ∧ w'.cell? ⟨(ad.add (jp.toNat * 3)).block, (ad.add (jp.toNat * 3)).off + 2, none⟩ = some (.int .u64 z.f2)) (ds := []) #[false, false, false, false, false, false, false, false, false, false, false, false, false, false, false, false, false, false, false, false, false, false, false, false] (by kernel_rfl) rfl rfl ⟨(blk_cell HX.out 0).trans rfl, (blk_cell HX.out 1).trans rfl, (blk_cell HX.out 2).trans rfl, keep_Right.look HO.out HD.out HS.out HQ.out, HP0.out, HP1.out, HP2.out⟩ (fun hHeld => ?_); refine with_tabW keep_Right.tab7 keep_Right.bits7 (fun HT_ HW_ => ?_)
            generalize W.drew = W0 at BA HX HO HP0 HP1 HP2 hHeld ⊢
            refine take_ (i := 0) (N := some 26) (v := ?_) (a' := ?_) #[true, false, false, false, false, false, false, false, false, false, false, false, false, false, false, false, false, false, false, false, false, false, false, false] rfl rfl (take_ofW HT_.out HW_.out (by kernel_rfl)) (fun _ _ _ h => h) (Or.inl ⟨by rfl, ?_⟩) hHeld ?_ ?_
            rotate_left
            · rintro w' ⟨s0, s1, s2, s3, s4, s5, s6⟩
              go_simp
              with_reducible rfl
            rotate_left
            · simp only [Act.put, List.setIfInBounds_toArray, List.set_cons_zero, List.set_cons_succ, i64_w, i32_w]
              rfl
            refine one_ (i := 1) (N := some 27) #[true, true, false, false, false, false, false, false, false, false, false, false, false, false, false, false, false, false, false, false, false, false, false, false] rfl rfl (one_of HT_.out (by kernel_rfl)) (by decide) (fun K hK => ?_)
            refine goes_ Tryd.func6 (by kernel_rfl) rfl #[.agg #[.string y.f0, .int .u64 y.f1, .int .u64 y.f2]] (by rfl) rfl rfl (by (try simp only [List.map_toArray, List.map_cons, List.map_nil]); first | done | rfl) ?_
            with_reducible refine (rank_Check.calls y.f0 y.f1 y.f2 t _ HT.out).mono ?_
            rintro e wn ⟨rfl, hb⟩
            refine ⟨_, rfl, ?_⟩
            have n0_ := Aside0.mk (blk_below HX.out hb)
            have n1_ := Aside0.mk (below_step BA.out hb)
            have n2_ := Aside0.mk (keep_Right.ob HO.out hb)
            have n3_ := Aside0.mk (keep_Right.keepc hb HP0.out)
            have n4_ := Aside0.mk (keep_Right.keepc hb HP1.out)
            have n5_ := Aside0.mk (keep_Right.keepc hb HP2.out)
            clear HX BA HO HP0 HP1 HP2
            have HX := n0_; have BA := n1_; have HO := n2_; have HP0 := n3_; have HP1 := n4_; have HP2 := n5_
            clear n0_ n1_ n2_ n3_ n4_ n5_ hb
            refine hK.out _ _ ⟨(blk_cell HX.out 0).trans rfl, (blk_cell HX.out 1).trans rfl, (blk_cell HX.out 2).trans rfl, keep_Right.look HO.out HD.out HS.out HQ.out, HP0.out, HP1.out, HP2.out⟩ (fun hHeld => ?_)
            clear hK K
            refine norm_ (a' := ?_) ?_ ?_
            rotate_left
            · show Act.put _ (some 27) _ = _
              simp only [Act.put, List.setIfInBounds_toArray, List.set_cons_zero, List.set_cons_succ, i64_w, i32_w]
              rfl
            refine pure_ (i := 2) (N := some 28) (v := ?_) (a' := ?_) #[true, true, true, false, false, false, false, false, false, false, false, false, false, false, false, false, false, false, false, false, false, false, false, false] rfl rfl (any_of HT_.out (by kernel_rfl)) (fun _ _ _ h => h) (Or.inl ⟨by rfl, ?_⟩) ?_ ?_
            rotate_left
            · intro w'
              go_simp
              with_reducible rfl
            rotate_left
            · simp only [Act.put, List.setIfInBounds_toArray, List.set_cons_zero, List.set_cons_succ, i64_w, i32_w]
              rfl
            refine pure_ (i := 3) (N := some 29) (v := ?_) (a' := ?_) #[true, true, true, true, false, false, false, false, false, false, false, false, false, false, false, false, false, false, false, false, false, false, false, false] rfl rfl (any_of HT_.out (by kernel_rfl)) (fun _ _ _ h => h) (Or.inl ⟨by rfl, ?_⟩) ?_ ?_
            rotate_left
            · intro w'
              go_simp
              with_reducible rfl
            rotate_left
            · simp only [Act.put, List.setIfInBounds_toArray, List.set_cons_zero, List.set_cons_succ, i64_w, i32_w]
              rfl
            refine pure_ (i := 4) (N := some 30) (v := ?_) (a' := ?_) #[true, true, true, true, true, false, false, false, false, false, false, false, false, false, false, false, false, false, false, false, false, false, false, false] rfl rfl (any_of HT_.out (by kernel_rfl)) (fun _ _ _ h => h) (Or.inl ⟨by rfl, ?_⟩) ?_ ?_
            rotate_left
            · intro w'
              go_simp
              with_reducible rfl
            rotate_left
            · simp only [Act.put, List.setIfInBounds_toArray, List.set_cons_zero, List.set_cons_succ, i64_w, i32_w]
              rfl
            refine pure_ (i := 5) (N := some 31) (v := ?_) (a' := ?_) #[true, true, true, true, true, true, false, false, false, false, false, false, false, false, false, false, false, false, false, false, false, false, false, false] rfl rfl (any_of HT_.out (by kernel_rfl)) (fun _ _ _ h => h) (Or.inl ⟨by rfl, ?_⟩) ?_ ?_
            rotate_left
            · intro w'
              go_simp
              with_reducible rfl
            rotate_left
            · simp only [Act.put, List.setIfInBounds_toArray, List.set_cons_zero, List.set_cons_succ, i64_w, i32_w]
              rfl
            refine take_ (i := 6) (N := some 32) (v := ?_) (a' := ?_) #[true, true, true, true, true, true, true, false, false, false, false, false, false, false, false, false, false, false, false, false, false, false, false, false] rfl rfl (take_ofW HT_.out HW_.out (by kernel_rfl)) (fun _ _ _ h => h) (Or.inl ⟨by rfl, ?_⟩) hHeld ?_ ?_
            rotate_left
            · rintro w' ⟨s0, s1, s2, s3, s4, s5, s6⟩
              go_simp
              with_reducible rfl
            rotate_left
            · simp only [Act.put, List.setIfInBounds_toArray, List.set_cons_zero, List.set_cons_succ, i64_w, i32_w]
              rfl
            refine take_ (i := 7) (N := some 33) (v := ?_) (a' := ?_) #[true, true, true, true, true, true, true, true, false, false, false, false, false, false, false, false, false, false, false, false, false, false, false, false] rfl rfl (take_ofW HT_.out HW_.out (by kernel_rfl)) (fun _ _ _ h => h) (Or.inl ⟨by rfl, ?_⟩) hHeld ?_ ?_
            rotate_left
            · rintro w' ⟨s0, s1, s2, s3, s4, s5, s6⟩
              go_simp
              with_reducible rfl
            rotate_left
            · simp only [Act.put, List.setIfInBounds_toArray, List.set_cons_zero, List.set_cons_succ, i64_w, i32_w]
              rfl
            refine pure_ (i := 8) (N := some 34) (v := ?_) (a' := ?_) #[true, true, true, true, true, true, true, true, true, false, false, false, false, false, false, false, false, false, false, false, false, false, false, false] rfl rfl (any_of HT_.out (by kernel_rfl)) (fun _ _ _ h => h) (Or.inl ⟨by rfl, ?_⟩) ?_ ?_
            rotate_left
            · intro w'
              go_simp
              with_reducible rfl
            rotate_left
            · simp only [Act.put, List.setIfInBounds_toArray, List.set_cons_zero, List.set_cons_succ, i64_w, i32_w]
              rfl
            refine pure_ (i := 9) (N := some 35) (v := ?_) (a' := ?_) #[true, true, true, true, true, true, true, true, true, true, false, false, false, false, false, false, false, false, false, false, false, false, false, false] rfl rfl (any_of HT_.out (by kernel_rfl)) (fun _ _ _ h => h) (Or.inl ⟨by rfl, ?_⟩) ?_ ?_
            rotate_left
            · intro w'
              go_simp
              with_reducible rfl
            rotate_left
            · simp only [Act.put, List.setIfInBounds_toArray, List.set_cons_zero, List.set_cons_succ, i64_w, i32_w]
              rfl
            refine pure_ (i := 10) (N := some 36) (v := ?_) (a' := ?_) #[true, true, true, true, true, true, true, true, true, true, true, false, false, false, false, false, false, false, false, false, false, false, false, false] rfl rfl (any_of HT_.out (by kernel_rfl)) (fun _ _ _ h => h) (Or.inl ⟨by rfl, ?_⟩) ?_ ?_
            rotate_left
            · intro w'
              go_simp
              with_reducible rfl
            rotate_left
            · simp only [Act.put, List.setIfInBounds_toArray, List.set_cons_zero, List.set_cons_succ, i64_w, i32_w]
              rfl
            refine pure_ (i := 11) (N := some 37) (v := ?_) (a' := ?_) #[true, true, true, true, true, true, true, true, true, true, true, true, false, false, false, false, false, false, false, false, false, false, false, false] rfl rfl (any_of HT_.out (by kernel_rfl)) (fun _ _ _ h => h) (Or.inl ⟨by rfl, ?_⟩) ?_ ?_
            rotate_left
            · intro w'
              go_simp
              with_reducible rfl
            rotate_left
            · simp only [Act.put, List.setIfInBounds_toArray, List.set_cons_zero, List.set_cons_succ, i64_w, i32_w]
              rfl
            refine pure_ (i := 12) (N := some 38) (v := ?_) (a' := ?_) #[true, true, true, true, true, true, true, true, true, true, true, true, true, false, false, false, false, false, false, false, false, false, false, false] rfl rfl (any_of HT_.out (by kernel_rfl)) (fun _ _ _ h => h) (Or.inl ⟨by rfl, ?_⟩) ?_ ?_
            rotate_left
            · intro w'
              go_simp
              with_reducible rfl
            rotate_left
            · simp only [Act.put, List.setIfInBounds_toArray, List.set_cons_zero, List.set_cons_succ, i64_w, i32_w]
              rfl
            refine pure_ (i := 13) (N := some 39) (v := ?_) (a' := ?_) #[true, true, true, true, true, true, true, true, true, true, true, true, true, true, false, false, false, false, false, false, false, false, false, false] rfl rfl (any_of HT_.out (by kernel_rfl)) (fun _ _ _ h => h) (Or.inl ⟨by rfl, ?_⟩) ?_ ?_
            rotate_left
            · intro w'
              go_simp
              with_reducible rfl
            rotate_left
            · simp only [Act.put, List.setIfInBounds_toArray, List.set_cons_zero, List.set_cons_succ, i64_w, i32_w]
              rfl
            refine pure_ (i := 14) (N := some 40) (v := ?_) (a' := ?_) #[true, true, true, true, true, true, true, true, true, true, true, true, true, true, true, false, false, false, false, false, false, false, false, false] rfl rfl (any_of HT_.out (by kernel_rfl)) (fun _ _ _ h => h) (Or.inl ⟨by rfl, ?_⟩) ?_ ?_
            rotate_left
            · intro w'
              go_simp
              with_reducible rfl
            rotate_left
            · simp only [Act.put, List.setIfInBounds_toArray, List.set_cons_zero, List.set_cons_succ, i64_w, i32_w]
              rfl
            refine pure_ (i := 15) (N := some 41) (v := ?_) (a' := ?_) #[true, true, true, true, true, true, true, true, true, true, true, true, true, true, true, true, false, false, false, false, false, false, false, false] rfl rfl (any_of HT_.out (by kernel_rfl)) (fun _ _ _ h => h) (Or.inl ⟨by rfl, ?_⟩) ?_ ?_
            rotate_left
            · intro w'
              go_simp
              with_reducible rfl
            rotate_left
            · simp only [Act.put, List.setIfInBounds_toArray, List.set_cons_zero, List.set_cons_succ, i64_w, i32_w]
              rfl
            refine pure_ (i := 16) (N := some 42) (v := ?_) (a' := ?_) #[true, true, true, true, true, true, true, true, true, true, true, true, true, true, true, true, true, false, false, false, false, false, false, false] rfl rfl (any_of HT_.out (by kernel_rfl)) (fun _ _ _ h => h) (Or.inl ⟨by rfl, ?_⟩) ?_ ?_
            rotate_left
            · intro w'
              go_simp
              with_reducible rfl
            rotate_left
            · simp only [Act.put, List.setIfInBounds_toArray, List.set_cons_zero, List.set_cons_succ, i64_w, i32_w]
              rfl
            refine pure_ (i := 17) (N := some 43) (v := ?_) (a' := ?_) #[true, true, true, true, true, true, true, true, true, true, true, true, true, true, true, true, true, true, false, false, false, false, false, false] rfl rfl (any_of HT_.out (by kernel_rfl)) (fun _ _ _ h => h) (Or.inl ⟨by rfl, ?_⟩) ?_ ?_
            rotate_left
            · intro w'
              go_simp
              with_reducible rfl
            rotate_left
            · simp only [Act.put, List.setIfInBounds_toArray, List.set_cons_zero, List.set_cons_succ, i64_w, i32_w]
              rfl
            refine take_ (i := 18) (N := some 44) (v := ?_) (a' := ?_) #[true, true, true, true, true, true, true, true, true, true, true, true, true, true, true, true, true, true, true, false, false, false, false, false] rfl rfl (take_ofW HT_.out HW_.out (by kernel_rfl)) (fun _ _ _ h => h) (Or.inl ⟨by rfl, ?_⟩) hHeld ?_ ?_
            rotate_left
            · rintro w' ⟨s0, s1, s2, s3, s4, s5, s6⟩
              go_simp
              with_reducible rfl
            rotate_left
            · simp only [Act.put, List.setIfInBounds_toArray, List.set_cons_zero, List.set_cons_succ, i64_w, i32_w]
              rfl
            refine take_ (i := 19) (N := some 45) (v := ?_) (a' := ?_) #[true, true, true, true, true, true, true, true, true, true, true, true, true, true, true, true, true, true, true, true, false, false, false, false] rfl rfl (take_ofW HT_.out HW_.out (by kernel_rfl)) (fun _ _ _ h => h) (Or.inl ⟨by rfl, ?_⟩) hHeld ?_ ?_
            rotate_left
            · rintro w' ⟨s0, s1, s2, s3, s4, s5, s6⟩
              go_simp
              with_reducible rfl
            rotate_left
            · simp only [Act.put, List.setIfInBounds_toArray, List.set_cons_zero, List.set_cons_succ, i64_w, i32_w]
              rfl
            refine one_ (i := 20) (N := some 46) #[true, true, true, true, true, true, true, true, true, true, true, true, true, true, true, true, true, true, true, true, true, false, false, false] rfl rfl (one_of HT_.out (by kernel_rfl)) (by decide) (fun K hK => ?_)
            refine goes_ Tryd.func14 (by kernel_rfl) rfl #[.agg #[.string z.f0, .int .u64 z.f1, .int .u64 z.f2], .agg #[.string y.f0, .int .u64 y.f1, .int .u64 y.f2]] (by rfl) rfl rfl (by (try simp only [List.map_toArray, List.map_cons, List.map_nil]); first | done | rfl) ?_
            with_reducible refine (rank_Cmp.calls k z.f0 z.f1 z.f2 y.f0 y.f1 y.f2 c _ HCM.out).mono ?_
            rintro e wn ⟨rfl, hb⟩
            refine ⟨_, rfl, ?_⟩
            have n0_ := Aside0.mk (blk_below HX.out hb)
            have n1_ := Aside0.mk (below_step BA.out hb)
            have n2_ := Aside0.mk (keep_Right.ob HO.out hb)
            have n3_ := Aside0.mk (keep_Right.keepc hb HP0.out)
            have n4_ := Aside0.mk (keep_Right.keepc hb HP1.out)
            have n5_ := Aside0.mk (keep_Right.keepc hb HP2.out)
            clear HX BA HO HP0 HP1 HP2
            have HX := n0_; have BA := n1_; have HO := n2_; have HP0 := n3_; have HP1 := n4_; have HP2 := n5_
            clear n0_ n1_ n2_ n3_ n4_ n5_ hb
            refine hK.out _ _ ⟨(blk_cell HX.out 0).trans rfl, (blk_cell HX.out 1).trans rfl, (blk_cell HX.out 2).trans rfl, keep_Right.look HO.out HD.out HS.out HQ.out, HP0.out, HP1.out, HP2.out⟩ (fun hHeld => ?_)
            clear hK K
            refine norm_ (a' := ?_) ?_ ?_
            rotate_left
            · show Act.put _ (some 46) _ = _
              simp only [Act.put, List.setIfInBounds_toArray, List.set_cons_zero, List.set_cons_succ, i64_w, i32_w]
              rfl
            refine pure_ (i := 21) (N := some 47) (v := ?_) (a' := ?_) #[true, true, true, true, true, true, true, true, true, true, true, true, true, true, true, true, true, true, true, true, true, true, false, false] rfl rfl (any_of HT_.out (by kernel_rfl)) (fun _ _ _ h => h) (Or.inl ⟨by rfl, ?_⟩) ?_ ?_
            rotate_left
            · intro w'
              go_simp
              with_reducible rfl
            rotate_left
            · simp only [Act.put, List.setIfInBounds_toArray, List.set_cons_zero, List.set_cons_succ, i64_w, i32_w]
              rfl
            refine pure_ (i := 22) (N := some 48) (v := ?_) (a' := ?_) #[true, true, true, true, true, true, true, true, true, true, true, true, true, true, true, true, true, true, true, true, true, true, true, false] rfl rfl (any_of HT_.out (by kernel_rfl)) (fun _ _ _ h => h) (Or.inl ⟨by rfl, ?_⟩) ?_ ?_
            rotate_left
            · intro w'
              go_simp
              with_reducible rfl
            rotate_left
            · simp only [Act.put, List.setIfInBounds_toArray, List.set_cons_zero, List.set_cons_succ, i64_w, i32_w]
              rfl
            refine pure_ (i := 23) (N := some 49) (v := ?_) (a' := ?_) #[true, true, true, true, true, true, true, true, true, true, true, true, true, true, true, true, true, true, true, true, true, true, true, true] rfl rfl (any_of HT_.out (by kernel_rfl)) (fun _ _ _ h => h) (Or.inl ⟨by rfl, ?_⟩) ?_ ?_
            rotate_left
            · intro w'
              go_simp
              with_reducible rfl
            rotate_left
            · simp only [Act.put, List.setIfInBounds_toArray, List.set_cons_zero, List.set_cons_succ, i64_w, i32_w]
              rfl
            refine done_ (done_of HT_.out (by kernel_rfl)) ?_
            clear hHeld
            by_cases hcp : c > 0
            · rw [if_pos hcp] at hgo
              have HCP := Aside0.mk hcp
              obtain rfl : false = r := Option.some.inj hgo
              clear hgo hcp
              go_wp2
              any_goals (exfalso; have hz := HCP.out; omega)
              go_ret
              exact ⟨rfl, BA.out⟩
            · rw [if_neg hcp] at hgo
              have HCP := Aside0.mk hcp
              have HGo := Aside0.mk hgo
              clear hgo hcp
              have hlk := keep_Right.look HO.out HD.out HS.out HQ.out
              have hb0 : wn.cell? ⟨g, 0, none⟩ = some (.string y.f0) := (blk_cell HX.out 0).trans rfl
              have hkey := Go.WideMaps.keyOf_string_mk Tryd.underlying9 (s := y.f0) (Nat.le_trans HS.out (by unfold maxLen; omega))
              go_wp2_with (at_mapUpdate; refine wpList_mapUpdate_own _ rfl _ _ _ 46 rfl 9 3 keep_Right.law Tryd.underlying46 _ w.heap.size kk _ rfl HO.out (by unfold maxLen; omega) _ _ _ rfl rfl hkey _ [] (plainElem_int Tryd.underlying3 (by decide)) ?_; intro w1 hown1 hgrow1)
              any_goals (exfalso; have hz := HCP.out; omega)
              go_roundg (n - (kk + 1))
              case measure => omega
              case rel => exact ⟨kk + 1, by omega, by omega, by rw [← HKI.out]; go_num, ⟨BA.out.grown hgrow1 BA.out.size (fun j hj => by cases hj; exact Nat.le_refl _)⟩, ⟨by rw [show n - (kk + 1) = m from by have := HM1.out; omega]; exact HGo.out⟩, ⟨_, hown1, by have h := keep_Right.tells_succ HD.out (by have := HN.out; omega) (by rw [HKI.out, HY2.out]; exact HSN.out); rw [HKI.out, HY2.out] at h; exact h⟩⟩
      · rw [if_neg ht0] at hgo
        have ht1 : (t != 0) = true := bne_iff_ne.mpr ht0
        obtain rfl : false = r := Option.some.inj hgo
        clear hgo ht0
        have n0_ := Aside0.mk (blk_drew HX.out)
        have n1_ := Aside0.mk (below_drew1 BA.out)
        have n2_ := Aside0.mk HO.out.drew
        clear HX BA HO
        have HX := n0_; have BA := n1_; have HO := n2_
        clear n0_ n1_ n2_
        refine start_ (n := 24) (S := fun w' => w'.cell? ⟨g, 0, none⟩ = some (.string y.f0) ∧ w'.cell? ⟨g, 1, none⟩ = some (.int .u64 y.f1) ∧ w'.cell? ⟨g, 2, none⟩ = some (.int .u64 y.f2)) (ds := []) #[false, false, false, false, false, false, false, false, false, false, false, false, false, false, false, false, false, false, false, false, false, false, false, false] (by kernel_rfl) rfl rfl ⟨(blk_cell HX.out 0).trans rfl, (blk_cell HX.out 1).trans rfl, (blk_cell HX.out 2).trans rfl⟩ (fun hHeld => ?_); refine with_tabW keep_Right.tab7 keep_Right.bits7 (fun HT_ HW_ => ?_)
        generalize W.drew = W0 at BA HX HO hHeld ⊢
        refine take_ (i := 0) (N := some 26) (v := ?_) (a' := ?_) #[true, false, false, false, false, false, false, false, false, false, false, false, false, false, false, false, false, false, false, false, false, false, false, false] rfl rfl (take_ofW HT_.out HW_.out (by kernel_rfl)) (fun _ _ _ h => h) (Or.inl ⟨by rfl, ?_⟩) hHeld ?_ ?_
        rotate_left
        · rintro w' ⟨s0, s1, s2⟩
          go_simp
          with_reducible rfl
        rotate_left
        · simp only [Act.put, List.setIfInBounds_toArray, List.set_cons_zero, List.set_cons_succ, i64_w, i32_w]
          rfl
        refine one_ (i := 1) (N := some 27) #[true, true, false, false, false, false, false, false, false, false, false, false, false, false, false, false, false, false, false, false, false, false, false, false] rfl rfl (one_of HT_.out (by kernel_rfl)) (by decide) (fun K hK => ?_)
        refine goes_ Tryd.func6 (by kernel_rfl) rfl #[.agg #[.string y.f0, .int .u64 y.f1, .int .u64 y.f2]] (by rfl) rfl rfl (by (try simp only [List.map_toArray, List.map_cons, List.map_nil]); first | done | rfl) ?_
        with_reducible refine (rank_Check.calls y.f0 y.f1 y.f2 t _ HT.out).mono ?_
        rintro e wn ⟨rfl, hb⟩
        refine ⟨_, rfl, ?_⟩
        have n0_ := Aside0.mk (blk_below HX.out hb)
        have n1_ := Aside0.mk (below_step BA.out hb)
        have n2_ := Aside0.mk (keep_Right.ob HO.out hb)
        clear HX BA HO
        have HX := n0_; have BA := n1_; have HO := n2_
        clear n0_ n1_ n2_ hb
        refine hK.out _ _ ⟨(blk_cell HX.out 0).trans rfl, (blk_cell HX.out 1).trans rfl, (blk_cell HX.out 2).trans rfl⟩ (fun hHeld => ?_)
        clear hK K
        refine norm_ (a' := ?_) ?_ ?_
        rotate_left
        · show Act.put _ (some 27) _ = _
          simp only [Act.put, List.setIfInBounds_toArray, List.set_cons_zero, List.set_cons_succ, i64_w, i32_w]
          rfl
        refine pure_ (i := 2) (N := some 28) (v := ?_) (a' := ?_) #[true, true, true, false, false, false, false, false, false, false, false, false, false, false, false, false, false, false, false, false, false, false, false, false] rfl rfl (any_of HT_.out (by kernel_rfl)) (fun _ _ _ h => h) (Or.inl ⟨by rfl, ?_⟩) ?_ ?_
        rotate_left
        · intro w'
          go_simp
          with_reducible rfl
        rotate_left
        · simp only [Act.put, List.setIfInBounds_toArray, List.set_cons_zero, List.set_cons_succ, i64_w, i32_w]
          rfl
        refine pure_ (i := 3) (N := some 29) (v := ?_) (a' := ?_) #[true, true, true, true, false, false, false, false, false, false, false, false, false, false, false, false, false, false, false, false, false, false, false, false] rfl rfl (any_of HT_.out (by kernel_rfl)) (fun _ _ _ h => h) (Or.inl ⟨by rfl, ?_⟩) ?_ ?_
        rotate_left
        · intro w'
          go_simp
          with_reducible rfl
        rotate_left
        · simp only [Act.put, List.setIfInBounds_toArray, List.set_cons_zero, List.set_cons_succ, i64_w, i32_w]
          rfl
        refine pure_ (i := 4) (N := some 30) (v := undef) (a' := ?_) #[true, true, true, true, true, false, false, false, false, false, false, false, false, false, false, false, false, false, false, false, false, false, false, false] rfl rfl (any_of HT_.out (by kernel_rfl)) (fun _ _ _ h => h) (Or.inr ⟨by rfl, rfl⟩) ?_ ?_
        rotate_left
        · simp only [Act.put, List.setIfInBounds_toArray, List.set_cons_zero, List.set_cons_succ, i64_w, i32_w]
          rfl
        refine pure_ (i := 5) (N := some 31) (v := undef) (a' := ?_) #[true, true, true, true, true, true, false, false, false, false, false, false, false, false, false, false, false, false, false, false, false, false, false, false] rfl rfl (any_of HT_.out (by kernel_rfl)) (fun _ _ _ h => h) (Or.inr ⟨by rfl, rfl⟩) ?_ ?_
        rotate_left
        · simp only [Act.put, List.setIfInBounds_toArray, List.set_cons_zero, List.set_cons_succ, i64_w, i32_w]
          rfl
        refine pure_ (i := 6) (N := some 32) (v := undef) (a' := ?_) #[true, true, true, true, true, true, true, false, false, false, false, false, false, false, false, false, false, false, false, false, false, false, false, false] rfl rfl (any_of HT_.out (by kernel_rfl)) (fun _ _ _ h => h) (Or.inr ⟨by rfl, rfl⟩) ?_ ?_
        rotate_left
        · simp only [Act.put, List.setIfInBounds_toArray, List.set_cons_zero, List.set_cons_succ, i64_w, i32_w]
          rfl
        refine pure_ (i := 7) (N := some 33) (v := undef) (a' := ?_) #[true, true, true, true, true, true, true, true, false, false, false, false, false, false, false, false, false, false, false, false, false, false, false, false] rfl rfl (any_of HT_.out (by kernel_rfl)) (fun _ _ _ h => h) (Or.inr ⟨by rfl, rfl⟩) ?_ ?_
        rotate_left
        · simp only [Act.put, List.setIfInBounds_toArray, List.set_cons_zero, List.set_cons_succ, i64_w, i32_w]
          rfl
        refine pure_ (i := 8) (N := some 34) (v := undef) (a' := ?_) #[true, true, true, true, true, true, true, true, true, false, false, false, false, false, false, false, false, false, false, false, false, false, false, false] rfl rfl (any_of HT_.out (by kernel_rfl)) (fun _ _ _ h => h) (Or.inr ⟨by rfl, rfl⟩) ?_ ?_
        rotate_left
        · simp only [Act.put, List.setIfInBounds_toArray, List.set_cons_zero, List.set_cons_succ, i64_w, i32_w]
          rfl
        refine pure_ (i := 9) (N := some 35) (v := ?_) (a' := ?_) #[true, true, true, true, true, true, true, true, true, true, false, false, false, false, false, false, false, false, false, false, false, false, false, false] rfl rfl (any_of HT_.out (by kernel_rfl)) (fun _ _ _ h => h) (Or.inl ⟨by rfl, ?_⟩) ?_ ?_
        rotate_left
        · intro w'
          go_simp
          with_reducible rfl
        rotate_left
        · simp only [Act.put, List.setIfInBounds_toArray, List.set_cons_zero, List.set_cons_succ, i64_w, i32_w]
          rfl
        refine pure_ (i := 10) (N := some 36) (v := ?_) (a' := ?_) #[true, true, true, true, true, true, true, true, true, true, true, false, false, false, false, false, false, false, false, false, false, false, false, false] rfl rfl (any_of HT_.out (by kernel_rfl)) (fun _ _ _ h => h) (Or.inl ⟨by rfl, ?_⟩) ?_ ?_
        rotate_left
        · intro w'
          go_simp
          with_reducible rfl
        rotate_left
        · simp only [Act.put, List.setIfInBounds_toArray, List.set_cons_zero, List.set_cons_succ, i64_w, i32_w]
          rfl
        refine pure_ (i := 11) (N := some 37) (v := undef) (a' := ?_) #[true, true, true, true, true, true, true, true, true, true, true, true, false, false, false, false, false, false, false, false, false, false, false, false] rfl rfl (any_of HT_.out (by kernel_rfl)) (fun _ _ _ h => h) (Or.inr ⟨by rfl, rfl⟩) ?_ ?_
        rotate_left
        · simp only [Act.put, List.setIfInBounds_toArray, List.set_cons_zero, List.set_cons_succ, i64_w, i32_w]
          rfl
        refine pure_ (i := 12) (N := some 38) (v := undef) (a' := ?_) #[true, true, true, true, true, true, true, true, true, true, true, true, true, false, false, false, false, false, false, false, false, false, false, false] rfl rfl (any_of HT_.out (by kernel_rfl)) (fun _ _ _ h => h) (Or.inr ⟨by rfl, rfl⟩) ?_ ?_
        rotate_left
        · simp only [Act.put, List.setIfInBounds_toArray, List.set_cons_zero, List.set_cons_succ, i64_w, i32_w]
          rfl
        refine pure_ (i := 13) (N := some 39) (v := undef) (a' := ?_) #[true, true, true, true, true, true, true, true, true, true, true, true, true, true, false, false, false, false, false, false, false, false, false, false] rfl rfl (any_of HT_.out (by kernel_rfl)) (fun _ _ _ h => h) (Or.inr ⟨by rfl, rfl⟩) ?_ ?_
        rotate_left
        · simp only [Act.put, List.setIfInBounds_toArray, List.set_cons_zero, List.set_cons_succ, i64_w, i32_w]
          rfl
        refine pure_ (i := 14) (N := some 40) (v := undef) (a' := ?_) #[true, true, true, true, true, true, true, true, true, true, true, true, true, true, true, false, false, false, false, false, false, false, false, false] rfl rfl (any_of HT_.out (by kernel_rfl)) (fun _ _ _ h => h) (Or.inr ⟨by rfl, rfl⟩) ?_ ?_
        rotate_left
        · simp only [Act.put, List.setIfInBounds_toArray, List.set_cons_zero, List.set_cons_succ, i64_w, i32_w]
          rfl
        refine pure_ (i := 15) (N := some 41) (v := undef) (a' := ?_) #[true, true, true, true, true, true, true, true, true, true, true, true, true, true, true, true, false, false, false, false, false, false, false, false] rfl rfl (any_of HT_.out (by kernel_rfl)) (fun _ _ _ h => h) (Or.inr ⟨by rfl, rfl⟩) ?_ ?_
        rotate_left
        · simp only [Act.put, List.setIfInBounds_toArray, List.set_cons_zero, List.set_cons_succ, i64_w, i32_w]
          rfl
        refine pure_ (i := 16) (N := some 42) (v := undef) (a' := ?_) #[true, true, true, true, true, true, true, true, true, true, true, true, true, true, true, true, true, false, false, false, false, false, false, false] rfl rfl (any_of HT_.out (by kernel_rfl)) (fun _ _ _ h => h) (Or.inr ⟨by rfl, rfl⟩) ?_ ?_
        rotate_left
        · simp only [Act.put, List.setIfInBounds_toArray, List.set_cons_zero, List.set_cons_succ, i64_w, i32_w]
          rfl
        refine pure_ (i := 17) (N := some 43) (v := undef) (a' := ?_) #[true, true, true, true, true, true, true, true, true, true, true, true, true, true, true, true, true, true, false, false, false, false, false, false] rfl rfl (any_of HT_.out (by kernel_rfl)) (fun _ _ _ h => h) (Or.inr ⟨by rfl, rfl⟩) ?_ ?_
        rotate_left
        · simp only [Act.put, List.setIfInBounds_toArray, List.set_cons_zero, List.set_cons_succ, i64_w, i32_w]
          rfl
        refine pure_ (i := 18) (N := some 44) (v := undef) (a' := ?_) #[true, true, true, true, true, true, true, true, true, true, true, true, true, true, true, true, true, true, true, false, false, false, false, false] rfl rfl (any_of HT_.out (by kernel_rfl)) (fun _ _ _ h => h) (Or.inr ⟨by rfl, rfl⟩) ?_ ?_
        rotate_left
        · simp only [Act.put, List.setIfInBounds_toArray, List.set_cons_zero, List.set_cons_succ, i64_w, i32_w]
          rfl
        refine pure_ (i := 19) (N := some 45) (v := undef) (a' := ?_) #[true, true, true, true, true, true, true, true, true, true, true, true, true, true, true, true, true, true, true, true, false, false, false, false] rfl rfl (any_of HT_.out (by kernel_rfl)) (fun _ _ _ h => h) (Or.inr ⟨by rfl, rfl⟩) ?_ ?_
        rotate_left
        · simp only [Act.put, List.setIfInBounds_toArray, List.set_cons_zero, List.set_cons_succ, i64_w, i32_w]
          rfl
        refine pure_ (i := 20) (N := some 46) (v := undef) (a' := ?_) #[true, true, true, true, true, true, true, true, true, true, true, true, true, true, true, true, true, true, true, true, true, false, false, false] rfl rfl (any_of HT_.out (by kernel_rfl)) (fun _ _ _ h => h) (Or.inr ⟨by rfl, rfl⟩) ?_ ?_
        rotate_left
        · simp only [Act.put, List.setIfInBounds_toArray, List.set_cons_zero, List.set_cons_succ, i64_w, i32_w]
          rfl
        refine pure_ (i := 21) (N := some 47) (v := undef) (a' := ?_) #[true, true, true, true, true, true, true, true, true, true, true, true, true, true, true, true, true, true, true, true, true, true, false, false] rfl rfl (any_of HT_.out (by kernel_rfl)) (fun _ _ _ h => h) (Or.inr ⟨by rfl, rfl⟩) ?_ ?_
        rotate_left
        · simp only [Act.put, List.setIfInBounds_toArray, List.set_cons_zero, List.set_cons_succ, i64_w, i32_w]
          rfl
        refine pure_ (i := 22) (N := some 48) (v := undef) (a' := ?_) #[true, true, true, true, true, true, true, true, true, true, true, true, true, true, true, true, true, true, true, true, true, true, true, false] rfl rfl (any_of HT_.out (by kernel_rfl)) (fun _ _ _ h => h) (Or.inr ⟨by rfl, rfl⟩) ?_ ?_
        rotate_left
        · simp only [Act.put, List.setIfInBounds_toArray, List.set_cons_zero, List.set_cons_succ, i64_w, i32_w]
          rfl
        refine pure_ (i := 23) (N := some 49) (v := ?_) (a' := ?_) #[true, true, true, true, true, true, true, true, true, true, true, true, true, true, true, true, true, true, true, true, true, true, true, true] rfl rfl (any_of HT_.out (by kernel_rfl)) (fun _ _ _ h => h) (Or.inl ⟨by rfl, ?_⟩) ?_ ?_
        rotate_left
        · intro w'
          go_simp
          with_reducible rfl
        rotate_left
        · simp only [Act.put, List.setIfInBounds_toArray, List.set_cons_zero, List.set_cons_succ, i64_w, i32_w]
          rfl
        refine done_ (done_of HT_.out (by kernel_rfl)) ?_
        go_wp2
        go_ret
        exact ⟨rfl, BA.out⟩
    · have hltz : ¬ (kk : Int) < (n : Int) := by omega
      have hkn : kk = n := by omega
      subst hkn
      have hgo := HGo.out
      rw [Nat.sub_self] at hgo
      have hr : true = r := Option.some.inj hgo
      subst hr
      clear hgo
      go_wp2
      go_ret
      exact ⟨rfl, BW.out⟩
theorem keep_Right.calls (k : Nat) (a0 : Int) (A1 : Option Addr) (c1 : Nat) (l1 : List S25) (r : Bool) (w : World) (hr1 : Kd.C k25 w A1 l1.length l1) (hc1 : l1.length ≤ c1) (h : keep_Right.f k a0 l1 = some r) :
    Calls Tryd.prog 5 #[.int .i64 a0, .slice A1 l1.length c1] w fun e w' => e = .returned (.bool r) ∧ Below w.heap.size w w' := by
  unfold keep_Right.f at h
  obtain ⟨t, ht, h⟩ := Option.bind_eq_some_iff.1 h
  by_cases h1 : t = true
  · subst h1
    rw [if_pos rfl] at h
    by_cases h2 : (l1.length : Int) > wrap64 (a0 + 1)
    · rw [if_pos h2] at h
      obtain rfl := Option.some.inj h
      have HF := Aside0.mk ht
      have hl2 : decide (wrap64 (a0 + 1) < (l1.length : Int)) = true := decide_eq_true h2
      clear h2 ht
      go_enter Tryd.func5, Tryd.ntmps5
      go_wp2_with (go_at_call 13; refine (keep_fits.calls a0 true _ HF.out).mono ?_; rintro e w' ⟨rfl, ⟨nd, rfl⟩⟩)
      go_ret
      exact ⟨rfl, pw_below_drewN (Below.refl _ _) _⟩
    · rw [if_neg h2] at h
      exact keep_Right.walk k a0 A1 c1 l1 r w hr1 hc1 ht h2 h
  · rw [if_neg h1] at h
    obtain rfl := Option.some.inj h
    obtain rfl : t = false := by simpa using h1
    have HF := Aside0.mk ht
    clear h1 ht
    go_enter Tryd.func5, Tryd.ntmps5
    go_wp2_with (go_at_call 13; refine (keep_fits.calls a0 false _ HF.out).mono ?_; rintro e w' ⟨rfl, ⟨nd, rfl⟩⟩)
    go_ret
    exact ⟨rfl, pw_below_drewN (Below.refl _ _) _⟩
end

end Go.Proofs.YthjiiifnlhbffaaDoor.GKeepThreshold
