-- Written by gprint (wip/gprint), this session's program over the kit's print. Not trusted: Lean checks it.
import Derived.Test.YthjiiifnlhbffaaDoorGKeepThresholdx0
import Derived.Test.YthjiiifnlhbffaaDoorGKeepThresholdx7
namespace Go.Proofs.YthjiiifnlhbffaaDoor.GKeepThreshold
open Go.RowKit Go.Proofs.YthjiiifnlhbffaaDoorW.PrintWords Go.Proofs.YthjiiifnlhbffaaDoorW.PrintLast Go.Proofs.YthjiiifnlhbffaaDoorW.PrintMore
attribute [local go_sem] max2_int min2_int max_two min_two max_three min_three max_four min_four   -- for this text's walks alone
set_option linter.unusedVariables false
set_option linter.unusedSimpArgs false

/-! ### api_Item_35: function 35 -/
section
open Go.Lib Go.Proofs.YthjiiifnlhbffaaDoor.KR
/-! ### Insert -/
set_option maxHeartbeats 4000000 in
set_option maxRecDepth 1000000 in
theorem api_Item_35.shift (g cap i n g2 c2 : Nat) (cur cur2 : Array Value) (w : World) (hb : w.heap[g]? = some (.cells cur 25 (0, 0))) (hb2 : w.heap[g2]? = some (.cells cur2 25 (0, 0))) (hne : g2 ≠ g) (hm : cap ≤ 9223372036854775807) (hi : i < n)
    (hsz : cur.size = cap * 3) (hsz2 : 3 ≤ cur2.size) (h1 : ∀ v ∈ cur.toList.take (n * 3), v.oneCell' = true) (h12 : ∀ v ∈ cur2.toList.take 3, v.oneCell' = true) (hroom : n + 1 ≤ cap) :
    Calls Tryd.prog 35 #[.slice (some ⟨g, 0, none⟩) n cap, .int .i64 i, .slice (some ⟨g2, 0, none⟩) 1 c2] w fun e w' => e = .returned (.slice (some ⟨g, 0, none⟩) (n + 1) cap) ∧
      w' = (w.drew.setCells g ((i + 1) * 3) ((cur.toList.take (n * 3)).drop (i * 3))).setCells g (i * 3) (cur2.toList.take 3) := by
  obtain ⟨i0, hi0, hz0, hz1, hz2⟩ := info_parts info25
  obtain ⟨news, hnews⟩ : ∃ news, news = (cur.toList.take (n * 3)).drop (i * 3) := ⟨_, rfl⟩
  obtain ⟨vs, hvs⟩ : ∃ vs, vs = cur2.toList.take 3 := ⟨_, rfl⟩
  have hcl : cur.toList.length = cap * 3 := (Array.length_toList).trans hsz
  have hLl : (cur.toList.take (n * 3)).length = n * 3 := by rw [List.length_take, hcl]; omega
  have hlen : news.length = (n - i) * 3 := by rw [hnews, List.length_drop, hLl]; omega
  have hvl : vs.length = 3 := by rw [hvs, List.length_take, Array.length_toList]; omega
  have hget : ∀ t u, news[t]? = some u → w.drew.cell? ⟨g, i * 3 + t, none⟩ = some u := by
    intro t u hu
    rw [hnews, List.getElem?_drop] at hu
    have hlt := (List.getElem?_eq_some_iff.1 hu).1
    rw [hLl] at hlt
    rw [List.getElem?_take_of_lt hlt] at hu
    exact blk_get (w := w.drew) hb _ _ hu
  have hsize : (Tryd.prog.info? 25).map (·.size) = some 3 := by rw [hi0]; simp [hz1]
  have hov : ∀ lb cb, (callFunc 49 #[.slice (some ⟨g2, 0, none⟩) 1 c2, .slice (some ⟨g, (i + 1) * 3, none⟩) lb cb]).run Tryd.prog w = .ok (.value (.bool false)) w := fun lb cb => by
    rw [run_callFunc_extern Tryd.func49 (by kernel_rfl) (by kernel_rfl) (by kernel_rfl) (e := Extern.SlicesOverlaps.overlaps #[22, 22] #[4]) (by kernel_rfl),
      Lib.run_overlaps_apart w 22 4 25 Tryd.underlying22 3 (fun _ => by kernel_rfl) ⟨g2, 0, none⟩ ⟨g, (i + 1) * 3, none⟩ 1 c2 lb cb hne 25 25 cur2.size cur.size (by simp [World.shape?, hb2]) (by simp [World.shape?, hb]) (by omega) (blk_frozen hb2 _) (blk_frozen hb2 _)]
    rfl
  obtain ⟨W1, hW1⟩ : ∃ W1, W1 = w.drew.setCells g ((i + 1) * 3) news := ⟨_, rfl⟩
  obtain ⟨cur1, hb1, hsz1⟩ : ∃ cur1 : Array Value, W1.heap[g]? = some (.cells cur1 25 (0, 0)) ∧ cur1.size = cap * 3 := by
    refine ⟨_, by rw [hW1]; exact setCells_at g 25 news ((i + 1) * 3) w.drew cur hb (by rw [hlen, hsz]; omega), ?_⟩
    simp [hlen, hsz]; omega
  have hcp1 : ∀ ty dc sc, (Builtin.copy_ #[22, 22] ty #[.slice (some ⟨g, (i + 1) * 3, none⟩) (n - i) dc, .slice (some ⟨g, i * 3, none⟩) (n + 1 - i) sc]).run Tryd.prog w.drew = .ok (goInt (Nat.min (n + 1 - i) (n - i))) W1 := fun ty dc sc => by
    rw [hW1]
    exact run_copy_k w.drew 22 22 ty 25 3 g ((i + 1) * 3) (n - i) dc ⟨g, i * 3, none⟩ (n + 1 - i) sc news Tryd.underlying22 hsize (by rw [hlen]; simp only [Nat.min_def]; split <;> omega)
      (fun j v hj => by rw [Addr.add_lit]; exact hget j v hj) (fun j hj => blk_some (w := w.drew) hb _ (by omega)) (fun j hj => blk_frozen (w := w.drew) hb _) (fun v hv => h1 v (by rw [hnews] at hv; exact List.mem_of_mem_drop hv))
  have hcp2 : ∀ ty dc, (Builtin.copy_ #[22, 22] ty #[.slice (some ⟨g, i * 3, none⟩) (n + 1 - i) dc, .slice (some ⟨g2, 0, none⟩) 1 c2]).run Tryd.prog W1 = .ok (goInt (Nat.min 1 (n + 1 - i))) (W1.setCells g (i * 3) vs) := fun ty dc =>
    run_copy_k W1 22 22 ty 25 3 g (i * 3) (n + 1 - i) dc ⟨g2, 0, none⟩ 1 c2 vs Tryd.underlying22 hsize (by rw [hvl]; simp only [Nat.min_def]; split <;> omega)
      (fun j v hj => by
        rw [Addr.add_lit, Nat.zero_add]
        have hg2 : W1.heap[g2]? = some (.cells cur2 25 (0, 0)) := by rw [hW1, setCells_ne g _ _ _ _ hne]; exact hb2
        refine blk_get hg2 j v ?_
        rw [hvs] at hj
        have hlt := (List.getElem?_eq_some_iff.1 hj).1
        rw [← hvs, hvl] at hlt
        rwa [List.getElem?_take_of_lt hlt] at hj)
      (fun j hj => blk_some hb1 _ (by omega)) (fun j hj => blk_frozen hb1 _) (fun v hv => h12 v (by rw [hvs] at hv; exact hv))
  have hW : Hid (W1 = w.drew.setCells g ((i + 1) * 3) news) := hW1
  have hz2 : ¬ ((i : Int) = (n : Int)) := by omega
  have hw1 : IntKind.i64.wrap ((i : Int) + 1) = (i : Int) + 1 := by rw [IntKind.wrap_i64]; omega
  have hq0 : (0 : Int) ≤ (i : Int) + 1 := by omega
  have htn : ((i : Int) + 1).toNat = i + 1 := by omega
  have hq2 : ¬ (cap = i + 1) := by omega
  have hq3 : (i : Int) ≤ (n : Int) + 1 := by omega
  have hq4 : ¬ (cap = i) := by omega
  have hq5 : i ≤ n := by omega
  rw [← hnews, ← hvs]
  clear hW1 hb1 hsz1 hget hnews hlen hb hsz h1 hcl hLl hvl hvs hsize h12 hsz2 hb2 hz1 hi0 hz0
  go_enter Tryd.func35, Tryd.ntmps35
  go_wp2_with (simp only [hov])
  go_region_law (refine step_copy_runI rfl _ _ 22 22 rfl _ _ (by simp [Act.eval, Act.put]) (by simp [Act.eval, Act.put]) (hcp1 _ _ _) ?_)
  go_wp2_with (at_builtin; refine wpList_copy_runI _ rfl _ _ 22 22 rfl _ _ rfl rfl (hcp2 _ _) ?_)
  go_ret
  exact ⟨rfl, by rw [hW.out]⟩
set_option maxHeartbeats 4000000 in
set_option maxRecDepth 1000000 in
theorem api_Item_35.grow (g cap i n g2 c2 : Nat) (cur cur2 : Array Value) (w : World) (hb : w.heap[g]? = some (.cells cur 25 (0, 0))) (hb2 : w.heap[g2]? = some (.cells cur2 25 (0, 0))) (hne : g2 ≠ g) (hm : cap ≤ 9223372036854775807) (hi : i < n)
    (hsz : cur.size = cap * 3) (hsz2 : 3 ≤ cur2.size) (h1 : ∀ v ∈ cur.toList.take (n * 3), v.oneCell' = true) (h12 : ∀ v ∈ cur2.toList.take 3, v.oneCell' = true) (hcap : n ≤ cap) (hroom : cap < n + 1) (hbig : (n + 1) * 32 ≤ 140737488355328) :
    Calls Tryd.prog 35 #[.slice (some ⟨g, 0, none⟩) n cap, .int .i64 i, .slice (some ⟨g2, 0, none⟩) 1 c2] w fun e w' => e = .returned (.slice (some ⟨w.heap.size, 0, none⟩) (n + 1) (grownCap w (n + 1) cap 25)) ∧
      w' = (((w.alloc (.cells (((cur.toList.take (n * 3)).take (i * 3)).toArray ++ Builtin.zeroCells (Value.agg #[.string ⟨#[]⟩, .int .u64 0, .int .u64 0]).cells (n + 1 - i) ++ Builtin.zeroCells (Value.agg #[.string ⟨#[]⟩, .int .u64 0, .int .u64 0]).cells (grownCap w (n + 1) cap 25 - (n + 1))) 25)).drew.setCells w.heap.size (i * 3) (cur2.toList.take 3)).drew).setCells w.heap.size ((i + 1) * 3) ((cur.toList.take (n * 3)).drop (i * 3)) := by
  obtain ⟨i0, hi0, hz0, hz1, hz2⟩ := info_parts info25
  obtain ⟨L, hL⟩ : ∃ L, L = cur.toList.take (n * 3) := ⟨_, rfl⟩
  obtain ⟨news, hnews⟩ : ∃ news, news = L.drop (i * 3) := ⟨_, rfl⟩
  obtain ⟨vs, hvs⟩ : ∃ vs, vs = cur2.toList.take 3 := ⟨_, rfl⟩
  have hcl : cur.toList.length = cap * 3 := (Array.length_toList).trans hsz
  have hLl : L.length = n * 3 := by rw [hL, List.length_take, hcl]; omega
  have hlen : news.length = (n - i) * 3 := by rw [hnews, List.length_drop, hLl]; omega
  have hvl : vs.length = 3 := by rw [hvs, List.length_take, Array.length_toList]; omega
  have hbw : g < w.heap.size := blk_lt hb
  have hvw : g2 < w.heap.size := blk_lt hb2
  have hLc : ∀ {W : World}, W.heap[g]? = some (.cells cur 25 (0, 0)) → ∀ j v, L[j]? = some v → W.cell? ⟨g, j, none⟩ = some v := fun {W} hW j v hj => by
    refine blk_get hW j v ?_
    rw [hL] at hj
    have hlt := (List.getElem?_eq_some_iff.1 hj).1
    rw [← hL, hLl] at hlt
    rwa [List.getElem?_take_of_lt hlt] at hj
  have hold : (Builtin.firstCells i0.size i (.slice (some ⟨g, 0, none⟩) i cap)).run Tryd.prog w.drew = .ok (L.take (i * 3)).toArray w.drew := by
    rw [hz1]
    exact run_firstCells_some w.drew 3 i ⟨g, 0, none⟩ i cap (L.take (i * 3)) (by rw [List.length_take]; omega) (fun j v hj => by
      rw [Addr.add_lit, Nat.zero_add]
      have hlt := (List.getElem?_eq_some_iff.1 hj).1
      rw [List.length_take] at hlt
      rw [List.getElem?_take_of_lt (by omega)] at hj
      exact hLc (W := w.drew) hb j v hj)
  have hkk : (n : Int) + 1 - (i : Int) = ((n + 1 - i : Nat) : Int) := by omega
  have hik : i + (n + 1 - i) = n + 1 := by omega
  obtain ⟨G, hG⟩ : ∃ G, G = grownCap w (n + 1) cap 25 := ⟨_, rfl⟩
  obtain ⟨ROW, hROW⟩ : ∃ ROW : Array Value, ROW = (L.take (i * 3)).toArray ++ Builtin.zeroCells (Value.agg #[.string ⟨#[]⟩, .int .u64 0, .int .u64 0]).cells (n + 1 - i) ++ Builtin.zeroCells (Value.agg #[.string ⟨#[]⟩, .int .u64 0, .int .u64 0]).cells (G - (n + 1)) := ⟨_, rfl⟩
  have hrz : ∀ ty, (Builtin.append_ #[22, 3] ty #[.slice (some ⟨g, 0, none⟩) i cap, .int .i64 ((n : Int) + 1 - (i : Int))]).run Tryd.prog w =
      .ok (.slice (some ⟨w.heap.size, 0, none⟩) (n + 1) G) (w.drew.alloc (.cells ROW 25)) := fun ty => by
    have h := Lib.run_append_grow_zeros w 22 3 ty 25 i0 _ .i64 .i64 Tryd.underlying22 Tryd.underlying3 hi0 hz0 (some ⟨g, 0, none⟩) i cap (L.take (i * 3)) hold (n + 1 - i) (by omega) (by omega) (by omega) (by omega) (by rw [hz2]; omega) (by rw [hz2, hik]; exact growslice_fits hroom hbig)
    rw [hik] at h
    rw [hkk, hROW, hG]
    exact h
  have hGn : n + 1 ≤ G := by rw [hG]; exact grownCap_ge w _ _ _
  have hG63 : G ≤ 9223372036854775807 := by
    have := grownCap_le_maxLen w (n + 1) cap 25 (by unfold maxLen; omega)
    rw [← hG] at this
    unfold maxLen at this
    omega
  have hRl : ROW.size = G * 3 := by
    rw [hROW]
    simp [Builtin.zeroCells, Value.cells, hLl]
    omega
  have hsize : (Tryd.prog.info? 25).map (·.size) = some 3 := by rw [hi0]; simp [hz1]
  obtain ⟨N, hN⟩ : ∃ N, N = w.heap.size := ⟨_, rfl⟩
  have hR0 : (w.drew.alloc (.cells ROW 25)).heap[N]? = some (.cells ROW 25 (0, 0)) := by rw [hN]; exact heap_alloc_new w.drew _
  have hG0 : ∀ k, k < N → (w.drew.alloc (.cells ROW 25)).heap[k]? = w.heap[k]? := fun k hk => (below_alloc (Below.refl w.heap.size w) (.cells ROW 25)).block k (by omega)
  have hvs0 : ∀ {W : World}, W.heap[g2]? = some (.cells cur2 25 (0, 0)) → ∀ j v, vs[j]? = some v → W.cell? ⟨g2, j, none⟩ = some v := fun {W} hW j v hj => by
    refine blk_get hW j v ?_
    rw [hvs] at hj
    have hlt := (List.getElem?_eq_some_iff.1 hj).1
    rw [← hvs, hvl] at hlt
    rwa [List.getElem?_take_of_lt hlt] at hj
  have hcpA : ∀ (W : World), W.heap = (w.drew.alloc (.cells ROW 25)).heap → ∀ ty dc, (Builtin.copy_ #[22, 22] ty #[.slice (some ⟨N, i * 3, none⟩) (n + 1 - i) dc, .slice (some ⟨g2, 0, none⟩) 1 c2]).run Tryd.prog W = .ok (goInt (Nat.min 1 (n + 1 - i))) (W.setCells N (i * 3) vs) := fun W hW ty dc => by
    have hWN : W.heap[N]? = some (.cells ROW 25 (0, 0)) := by rw [hW]; exact hR0
    exact run_copy_k W 22 22 ty 25 3 N (i * 3) (n + 1 - i) dc ⟨g2, 0, none⟩ 1 c2 vs Tryd.underlying22 hsize (by rw [hvl]; simp only [Nat.min_def]; split <;> omega)
      (fun j v hj => by rw [Addr.add_lit, Nat.zero_add]; exact hvs0 (by rw [hW, hG0 g2 (by omega)]; exact hb2) j v hj)
      (fun j hj => blk_some hWN _ (by omega)) (fun j hj => blk_frozen hWN _) (fun v hv => h12 v (by rw [hvs] at hv; exact hv))
  have hcpB : ∀ (W : World), W.heap = ((w.drew.alloc (.cells ROW 25)).setCells N (i * 3) vs).heap → ∀ ty dc sc, (Builtin.copy_ #[22, 22] ty #[.slice (some ⟨N, (i + 1) * 3, none⟩) (n - i) dc, .slice (some ⟨g, i * 3, none⟩) (n - i) sc]).run Tryd.prog W = .ok (goInt (Nat.min (n - i) (n - i))) (W.setCells N ((i + 1) * 3) news) := fun W hW ty dc sc => by
    have hWN := setCells_at N 25 vs (i * 3) _ ROW hR0 (by omega)
    rw [← hW] at hWN
    have hWg : W.heap[g]? = some (.cells cur 25 (0, 0)) := by rw [hW, setCells_ne N _ _ _ _ (by omega), hG0 g (by omega)]; exact hb
    exact run_copy_k W 22 22 ty 25 3 N ((i + 1) * 3) (n - i) dc ⟨g, i * 3, none⟩ (n - i) sc news Tryd.underlying22 hsize (by rw [hlen]; simp only [Nat.min_def]; split <;> omega)
      (fun j v hj => by rw [Addr.add_lit]; rw [hnews, List.getElem?_drop] at hj; exact hLc hWg _ v hj)
      (fun j hj => blk_some hWN _ (by simp [hvl, hRl]; omega)) (fun j hj => blk_frozen hWN _) (fun v hv => h1 v (by rw [hnews] at hv; rw [← hL]; exact List.mem_of_mem_drop hv))
  have hz2 : ¬ ((i : Int) = (n : Int)) := by omega
  have hz3 : (cap : Int) < (n : Int) + 1 := by omega
  have hw1 : IntKind.i64.wrap ((i : Int) + 1) = (i : Int) + 1 := by rw [IntKind.wrap_i64]; omega
  have hq0 : (0 : Int) ≤ (i : Int) + 1 := by omega
  have htn : ((i : Int) + 1).toNat = i + 1 := by omega
  have hq2 : ¬ (cap = i) := by omega
  have hq3 : ¬ (G = i) := by omega
  have hq4 : ¬ (G = i + 1) := by omega
  have hq5 : i ≤ n := by omega
  have hq6 : (i : Int) ≤ (n : Int) + 1 := by omega
  rw [← hL, ← hnews, ← hvs, ← hG, ← hROW, ← hN]
  rw [← hN] at hrz
  clear hold hROW hG hRl hR0 hG0 hvs0 hLc hkk hik hb hb2 h1 h12 hsz hsz2 hL hnews hvs hcl hLl hlen hvl hsize hz1 hz0 hi0
  have HN := Aside0.mk hN
  clear hN
  have hcA : ∀ ty dc, (Builtin.copy_ #[22, 22] ty #[.slice (some ⟨N, i * 3, none⟩) (n + 1 - i) dc, .slice (some ⟨g2, 0, none⟩) 1 c2]).run Tryd.prog (w.alloc (.cells ROW 25)).drew = .ok (goInt (Nat.min 1 (n + 1 - i))) ((w.alloc (.cells ROW 25)).drew.setCells N (i * 3) vs) := fun ty dc => hcpA (w.alloc (.cells ROW 25)).drew rfl ty dc
  have hcB : ∀ ty dc sc, (Builtin.copy_ #[22, 22] ty #[.slice (some ⟨N, (i + 1) * 3, none⟩) (n - i) dc, .slice (some ⟨g, i * 3, none⟩) (n - i) sc]).run Tryd.prog ((w.alloc (.cells ROW 25)).drew.setCells N (i * 3) vs).drew = .ok (goInt (Nat.min (n - i) (n - i))) (((w.alloc (.cells ROW 25)).drew.setCells N (i * 3) vs).drew.setCells N ((i + 1) * 3) news) := fun ty dc sc => hcpB ((w.alloc (.cells ROW 25)).drew.setCells N (i * 3) vs).drew rfl ty dc sc
  clear hcpA hcpB
  go_enter Tryd.func35, Tryd.ntmps35
  go_wp2_with (at_builtin; refine Lib.wpList_append_run _ rfl _ _ _ _ rfl _ _ rfl rfl _ _ (hrz _) ?_)
  go_region_law (fail)
  go_wp2
  go_ret
  exact ⟨rfl, rfl⟩
set_option maxHeartbeats 4000000 in
set_option maxRecDepth 1000000 in
theorem api_Item_35.tail (P0_ P2_ : Nat → Prop) (u9000_ : Value) (l0 l2 : List S25) (g2 c2 : Nat) (w0 w : World) (hB : Below w0.heap.size w0 w) (ho0 : Kd.R k25 25 w w0.heap.size P0_ u9000_ l0) (ho2 : Kd.R k25 25 w w0.heap.size P2_ (.slice (some ⟨g2, 0, none⟩) 1 c2) l2) (h2 : l0.length < 4398046511104) (h3 : l2.length = 1) :
    Calls Tryd.prog 35 #[u9000_, .int .i64 (l0.length : Int), .slice (some ⟨g2, 0, none⟩) 1 c2] w fun e w' => ∃ v0_ : Value, e = .returned (v0_) ∧ Kd.R k25 25 w' w0.heap.size (fun k_ => ((P0_ k_ ∨ P2_ k_) ∨ w.heap.size ≤ k_)) v0_ (l0 ++ l2) ∧ Below w0.heap.size w0 w' ∧ Kept w w' (fun k_ => P0_ k_ ∨ P2_ k_) := by
  have HB := Aside0.mk hB
  have HR := Aside0.mk (show ReadsRow (k25.K w) 3 w (some ⟨g2, 0, none⟩) 1 l2 from by have h := (Kd.R_reads' ho2).2.2; rw [h3] at h; exact h)
  have HOk := Aside0.mk ho0.1
  have HO := Aside0.mk (show Kd.R k25 25 w w0.heap.size (fun k_ => ((P0_ k_ ∨ P2_ k_) ∨ w.heap.size ≤ k_)) u9000_ l0 from Kd.R_mono ho0 (fun _ hk => .inl (.inl hk)))
  have hl : (l0.length + 1) * 32 ≤ 140737488355328 := by omega
  obtain ⟨_, inner, ⟨hln, hor⟩, _⟩ := ho0
  clear hB ho2
  rcases hor with ⟨rfl, h1⟩ | ⟨g, c, cur, rfl, _, _, hle, hcm, _, _⟩
  · obtain rfl : l0 = [] := List.length_eq_zero_iff.1 h1
    clear hln h2 h3 h1
    go_enter Tryd.func35, Tryd.ntmps35
    go_wp2_with (at_builtin; refine Kd.R_append_rows k25 (w0 := w0) w0.heap.size rfl (.tmp 23) (.tmp 24) 22 25 (.agg #[.string ⟨#[]⟩, .int .u64 0, .int .u64 0]) 32 rfl Tryd.underlying22 info25 rfl (by decide) (by decide) _ _ l2 (some ⟨g2, 0, none⟩) 1 c2 (fun k_ => ((P0_ k_ ∨ P2_ k_) ∨ w.heap.size ≤ k_)) (fun _ => False) rfl rfl HO.out HR.out (fun x cs hh => k25_flat.km hh) (fun _ hk => hk.elim) (fun _ hk => .inr hk) HB.out (below_size HB.out) hl ?_; intro v1 w1 hR1 hB1 hg1 _)
    all_goals (go_ret; exact ⟨v1, rfl, hR1, hB1, Kept.of_grown hg1 (Kept.refl _ _) (fun k hk => .inl (.inl (HOk.out k hk)))⟩)
  · unfold maxLen at hcm
    clear hln h2 h3
    go_enter Tryd.func35, Tryd.ntmps35
    go_wp2_with (at_builtin; refine Kd.R_append_rows k25 (w0 := w0) w0.heap.size rfl (.tmp 23) (.tmp 24) 22 25 (.agg #[.string ⟨#[]⟩, .int .u64 0, .int .u64 0]) 32 rfl Tryd.underlying22 info25 rfl (by decide) (by decide) _ _ l2 (some ⟨g2, 0, none⟩) 1 c2 (fun k_ => ((P0_ k_ ∨ P2_ k_) ∨ w.heap.size ≤ k_)) (fun _ => False) rfl rfl HO.out HR.out (fun x cs hh => k25_flat.km hh) (fun _ hk => hk.elim) (fun _ hk => .inr hk) HB.out (below_size HB.out) hl ?_; intro v1 w1 hR1 hB1 hg1 _)
    all_goals (go_ret; exact ⟨v1, rfl, hR1, hB1, Kept.of_grown hg1 (Kept.refl _ _) (fun k hk => .inl (.inl (HOk.out k hk)))⟩)
/-- Two lists laid one behind the other into a row, the first one first. -/
theorem api_Item_35.row (C v n : List Value) (a b m : Nat) (hb : b = a + v.length) (hn : m = n.length) (hl : a + v.length + m ≤ C.length) :
    (((C.take a ++ v ++ C.drop (a + v.length)).take b ++ n ++ (C.take a ++ v ++ C.drop (a + v.length)).drop (b + n.length))).take (a + v.length + m) = C.take a ++ v ++ n := by
  have h1 : (C.take a ++ v).length = b := by rw [List.length_append, List.length_take]; omega
  rw [List.take_append_of_le_length (l₁ := C.take a ++ v) (by omega), List.take_of_length_le (l := C.take a ++ v) (by omega), List.take_append_of_le_length (l₁ := C.take a ++ v ++ n) (by rw [List.length_append]; omega), List.take_of_length_le (l := C.take a ++ v ++ n) (by rw [List.length_append]; omega)]
theorem api_Item_35.row2 (C v n : List Value) (a b m : Nat) (hb : b = a + v.length) (hn : m = n.length) (hl : a + v.length + m ≤ C.length) :
    (((C.take b ++ n ++ C.drop (b + n.length)).take a ++ v ++ (C.take b ++ n ++ C.drop (b + n.length)).drop (a + v.length))).take (a + v.length + m) = C.take a ++ v ++ n := by
  have h1 : (C.take b).length = b := by rw [List.length_take]; omega
  have h2 : (C.take b ++ n ++ C.drop (b + n.length)).take a = C.take a := by
    rw [List.append_assoc, List.take_append_of_le_length (by omega), List.take_take, Nat.min_eq_left (by omega)]
  have h3 : (C.take b ++ n ++ C.drop (b + n.length)).drop (a + v.length) = n ++ C.drop (b + n.length) := by
    rw [← hb, List.append_assoc, List.drop_append_of_le_length (by omega), List.drop_of_length_le (by omega), List.nil_append]
  have h4 : (C.take a ++ v).length = a + v.length := by rw [List.length_append, List.length_take]; omega
  rw [h2, h3, ← List.append_assoc, List.take_append_of_le_length (l₁ := C.take a ++ v ++ n) (by rw [List.length_append]; omega), List.take_of_length_le (l := C.take a ++ v ++ n) (by rw [List.length_append]; omega)]
def api_Item_35.f (l0 : List S25) (a1 : Int) (l2 : List S25) : Option (List S25) := if 0 ≤ a1 then (if a1 ≤ (l0.length : Int) then (if l0.length < 4398046511104 then (if l2.length = 1 then (some (l0.take a1.toNat ++ l2 ++ l0.drop a1.toNat)) else none) else none) else none) else none
theorem api_Item_35.calls (P0_ : Nat → Prop) (u9000_ : Value) (l0 : List S25) (a1 : Int) (P2_ : Nat → Prop) (u9001_ : Value) (l2 : List S25) (r : List S25) (w0 w : World) (hB : Below w0.heap.size w0 w) (ho0 : Kd.R k25 25 w w0.heap.size P0_ u9000_ l0) (hp0_2 : ∀ k_, P0_ k_ → ¬ P2_ k_) (ho2 : Kd.R k25 25 w w0.heap.size P2_ u9001_ l2) (hp2_0 : ∀ k_, P2_ k_ → ¬ P0_ k_) (h : api_Item_35.f l0 a1 l2 = some r) :
    Calls Tryd.prog 35 #[u9000_, .int .i64 a1, u9001_] w fun e w' => ∃ v0_ : Value, e = .returned (v0_) ∧ Kd.R k25 25 w' w0.heap.size (fun k_ => ((P0_ k_ ∨ P2_ k_) ∨ w.heap.size ≤ k_)) v0_ r ∧ Below w0.heap.size w0 w' ∧ Kept w w' (fun k_ => P0_ k_ ∨ P2_ k_) := by
  unfold api_Item_35.f at h
  by_cases h0 : 0 ≤ a1
  · rw [if_pos h0] at h
    by_cases h1 : a1 ≤ (l0.length : Int)
    · rw [if_pos h1] at h
      by_cases h2 : l0.length < 4398046511104
      · rw [if_pos h2] at h
        by_cases h3 : l2.length = 1
        · rw [if_pos h3] at h
          obtain rfl := Option.some.inj h
          clear h
          obtain ⟨i, rfl⟩ := Int.eq_ofNat_of_zero_le h0
          rw [Int.toNat_natCast]
          obtain ⟨g2, c2, cur2, rfl, hok2, hbase2, hb2, hn2, hm2, hsz2, hr2⟩ := R_open ho2 (by rintro rfl; simp at h3)
          rw [h3] at hr2 hn2 ⊢
          have hsz2 : cur2.size = c2 * 3 := hsz2
          have hr2 : Reps (k25.K w) 3 l2 (cur2.toList.take (1 * 3)) := hr2
          have hone2 := Kd.reps_one hr2 (by decide) (fun p c hp => k25.K_one hp)
          rcases Nat.lt_or_ge i l0.length with hi | hi
          · obtain ⟨g, cap, cur, rfl, hok, hbase, hb, hn, hm, hsz, hr⟩ := R_open ho0 (by rintro rfl; simp at hi)
            have hne : g2 ≠ g := fun he => hp0_2 g hok (he ▸ hok2)
            have hsz : cur.size = cap * 3 := hsz
            have hcl : cur.toList.length = cap * 3 := (Array.length_toList).trans hsz
            have hcl2 : cur2.toList.length = c2 * 3 := (Array.length_toList).trans hsz2
            have hr : Reps (k25.K w) 3 l0 (cur.toList.take (l0.length * 3)) := hr
            have hone := Kd.reps_one hr (by decide) (fun p c hp => k25.K_one hp)
            unfold maxLen at hm
            obtain ⟨L, hL⟩ : ∃ L, L = cur.toList.take (l0.length * 3) := ⟨_, rfl⟩
            obtain ⟨vs, hvs⟩ : ∃ vs, vs = cur2.toList.take 3 := ⟨_, rfl⟩
            have hLl : L.length = l0.length * 3 := by rw [hL, List.length_take, hcl]; omega
            have hvl : vs.length = 3 := by rw [hvs, List.length_take, hcl2]; omega
            have hdl : (L.drop (i * 3)).length = (l0.length - i) * 3 := by rw [List.length_drop, hLl]; omega
            have hxl : (l0.take i ++ l2 ++ l0.drop i).length = l0.length + 1 := by rw [List.length_append, List.length_append, List.length_take, List.length_drop]; omega
            have htl : (L.take (i * 3)).length = i * 3 := by rw [List.length_take, hLl]; omega
            have hrr : Reps (k25.K w) 3 (l0.take i ++ l2 ++ l0.drop i) (L.take (i * 3) ++ vs ++ L.drop (i * 3)) := by
              rw [hL, hvs]; exact reps_app (reps_app (reps_take hr i) hr2) (reps_drop hr i)
            rcases Nat.lt_or_ge cap (l0.length + 1) with hroom | hroom
            · refine (api_Item_35.grow g cap i l0.length g2 c2 cur cur2 w hb hb2 hne hm hi hsz (by omega) hone hone2 hn hroom (by omega)).mono fun e w' ⟨he, hw⟩ => ?_
              subst he hw
              rw [← hL, ← hvs]
              obtain ⟨G, hG⟩ : ∃ G, G = grownCap w (l0.length + 1) cap 25 := ⟨_, rfl⟩
              have hGn : l0.length + 1 ≤ G := by rw [hG]; exact grownCap_ge w _ _ _
              have hGm : G ≤ maxLen := by rw [hG]; exact grownCap_le_maxLen w _ cap 25 (by unfold maxLen; omega)
              rw [← hG]
              obtain ⟨Z1, hZ1⟩ : ∃ Z1, Z1 = Builtin.zeroCells (Value.agg #[.string ⟨#[]⟩, .int .u64 0, .int .u64 0]).cells (l0.length + 1 - i) := ⟨_, rfl⟩
              obtain ⟨Z2, hZ2⟩ : ∃ Z2, Z2 = Builtin.zeroCells (Value.agg #[.string ⟨#[]⟩, .int .u64 0, .int .u64 0]).cells (G - (l0.length + 1)) := ⟨_, rfl⟩
              have hz1 : Z1.size = (l0.length + 1 - i) * 3 := by rw [hZ1]; simp [Builtin.zeroCells, Value.cells]
              have hz2 : Z2.size = (G - (l0.length + 1)) * 3 := by rw [hZ2]; simp [Builtin.zeroCells, Value.cells]
              rw [← hZ1, ← hZ2]
              obtain ⟨ROW, hROW⟩ : ∃ ROW, ROW = (L.take (i * 3)).toArray ++ Z1 ++ Z2 := ⟨_, rfl⟩
              have hRl : ROW.size = G * 3 := by rw [hROW]; simp [htl, hz1, hz2]; omega
              have hRll : ROW.toList.length = G * 3 := (Array.length_toList).trans hRl
              rw [← hROW]
              have hbn := heap_alloc_new w (.cells ROW 25)
              have hb3 := setCells_at w.heap.size 25 vs (i * 3) (w.alloc (.cells ROW 25)).drew ROW hbn (by omega)
              have hb4 := setCells_at w.heap.size 25 (L.drop (i * 3)) ((i + 1) * 3) ((w.alloc (.cells ROW 25)).drew.setCells w.heap.size (i * 3) vs).drew _ hb3 (by simp [hvl, hdl, hRl]; omega)
              have hbs := below_size hB
              refine ⟨_, rfl, ?_, setCells_below (below_drew1 (setCells_below (below_drew1 (below_alloc hB _)) hbs _ _)) hbs _ _, setCells_kept (Kept.drew (setCells_kept (Kept.drew (Kept.alloc (Kept.refl w _) _)) (.inr (Nat.le_refl _)) _ _)) (.inr (Nat.le_refl _)) _ _⟩
              rw [← hxl]
              refine R_block k25_flat (w0 := w) (.inr (Nat.le_refl _)) hbs (by first | exact hb4 | (rw [hxl]; exact hb4)) (by rw [hxl]; omega) hGm ?_ ?_
              · show _ = G * 3
                simp [hvl, hLl, hRl]; omega
              · rw [hxl]
                simp only [List.toList_toArray, show k25.sz = 3 from rfl]
                rw [show ((l0.length + 1) * 3) = i * 3 + vs.length + (l0.length - i) * 3 from by omega]
                have e0 : ROW.toList.take (i * 3) = L.take (i * 3) := by
                  rw [hROW]; simp [List.take_append_of_le_length, htl]
                rw [api_Item_35.row (ROW.toList) vs (L.drop (i * 3)) (i * 3) ((i + 1) * 3) _ (by rw [hvl]; omega) hdl.symm (by rw [hRll, hvl]; omega), e0]
                exact hrr
            · refine (api_Item_35.shift g cap i l0.length g2 c2 cur cur2 w hb hb2 hne hm hi hsz (by omega) hone hone2 hroom).mono fun e w' ⟨he, hw⟩ => ?_
              subst he hw
              rw [← hL, ← hvs]
              have hb3 := setCells_at g 25 (L.drop (i * 3)) ((i + 1) * 3) w.drew cur hb (by omega)
              have hb4 := setCells_at g 25 vs (i * 3) _ _ hb3 (by simp [hdl, hsz, hvl]; omega)
              refine ⟨_, rfl, ?_, setCells_below (setCells_below (below_drew1 hB) hbase _ _) hbase _ _, setCells_kept (setCells_kept (Kept.refl w _).drew (.inl (.inl hok)) _ _) (.inl (.inl hok)) _ _⟩
              rw [← hxl]
              refine R_block k25_flat (w0 := w) (.inl (.inl hok)) hbase (by first | exact hb4 | (rw [hxl]; exact hb4)) (by rw [hxl]; omega) (by unfold maxLen; omega) ?_ ?_
              · show _ = cap * 3
                simp [hLl, hsz, hvl]; omega
              · rw [hxl]
                simp only [List.toList_toArray, show k25.sz = 3 from rfl]
                rw [show ((l0.length + 1) * 3) = i * 3 + vs.length + (l0.length - i) * 3 from by omega]
                have e0 : cur.toList.take (i * 3) = L.take (i * 3) := by rw [hL, List.take_take, Nat.min_eq_left (by omega)]
                rw [api_Item_35.row2 (cur.toList) vs (L.drop (i * 3)) (i * 3) ((i + 1) * 3) _ (by rw [hvl]; omega) hdl.symm (by rw [hcl, hvl]; omega), e0]
                exact hrr
          · have hi2 : i = l0.length := by omega
            subst hi2
            rw [List.take_length, List.drop_length, List.append_nil]
            refine (api_Item_35.tail P0_ P2_ u9000_ l0 l2 g2 c2 w0 w hB ho0 (by rw [h3] at ho2; exact ho2) h2 h3).mono fun e w' hh => hh
        · rw [if_neg h3] at h; cases h
      · rw [if_neg h2] at h; cases h
    · rw [if_neg h1] at h; cases h
  · rw [if_neg h0] at h; cases h
end

/-! ### slices_IndexFunc_1: function 31 -/
section
open Go.Proofs.YthjiiifnlhbffaaDoor.KR
set_option maxHeartbeats 4000000 in
theorem slices_IndexFunc_1.clo (x0 : ByteArray) (x1 x2 : Int) (gb : Nat) (key : ByteArray) (w : World) (hk : w.cell? ⟨gb, 0, none⟩ = some (.string key)) :
    Calls Tryd.prog 32 #[.agg #[.string x0, .int .u64 x1, .int .u64 x2], .pointer (some ⟨gb, 0, none⟩)] w fun e w' => e = .returned (.bool (x0.toList == key.toList)) ∧ Below w.heap.size w w' := by
  have hk2 : ∀ o, (w.alloc o).cell? ⟨gb, 0, none⟩ = some (.string key) := fun o => Go.Lib.cell?_alloc_some o hk
  go_enter Tryd.func32, Tryd.ntmps32
  go_wp2
  go_ret
  exact ⟨rfl, below_alloc (Below.refl _ _) _⟩
def slices_IndexFunc_1.ix (l : List S25) (key : ByteArray) : Int := match l.findIdx? (fun x => x.f0.toList == key.toList) with | some i => (i : Int) | none => -1
theorem slices_IndexFunc_1.hit (l : List S25) (key : ByteArray) (k : Nat) (hk : k < l.length) (h : ((rd_T25 l k).f0.toList == key.toList) = true) (hb : ∀ j, j < k → ((rd_T25 l j).f0.toList == key.toList) = false) : slices_IndexFunc_1.ix l key = k := by
  have : l.findIdx? (fun x => x.f0.toList == key.toList) = some k := by
    rw [List.findIdx?_eq_some_iff_getElem]
    refine ⟨hk, ?_, fun j hj => ?_⟩
    · simpa [rd_T25, List.getElem?_eq_getElem hk] using h
    · have := hb j hj
      simpa [rd_T25, List.getElem?_eq_getElem (Nat.lt_trans hj hk)] using this
  unfold slices_IndexFunc_1.ix
  rw [this]
theorem slices_IndexFunc_1.miss (l : List S25) (key : ByteArray) (hb : ∀ j, j < l.length → ((rd_T25 l j).f0.toList == key.toList) = false) : slices_IndexFunc_1.ix l key = -1 := by
  have : l.findIdx? (fun x => x.f0.toList == key.toList) = none := by
    rw [List.findIdx?_eq_none_iff]
    intro x hx
    obtain ⟨j, hj, rfl⟩ := List.getElem_of_mem hx
    have := hb j hj
    simpa [rd_T25, List.getElem?_eq_getElem hj] using this
  unfold slices_IndexFunc_1.ix
  rw [this]
set_option maxHeartbeats 4000000 in
theorem slices_IndexFunc_1.walk (A : Option Addr) (c : Nat) (l : List S25) (gb : Nat) (key : ByteArray) (w : World) (hr : Kd.C k25 w A l.length l) (hc : l.length ≤ c) (hgb : gb < w.heap.size) (hk : w.cell? ⟨gb, 0, none⟩ = some (.string key)) :
    Calls Tryd.prog 31 #[.slice A l.length c, .func (.func 32) #[] #[.pointer (some ⟨gb, 0, none⟩)]] w fun e w' => e = .returned (.int .i64 (slices_IndexFunc_1.ix l key)) ∧ Below w.heap.size w w' := by
  have hm : l.length ≤ 9223372036854775807 := hr.2.1
  have HR := Aside0.mk hr
  clear hr
  obtain ⟨n, hn⟩ : ∃ n, n = l.length := ⟨_, rfl⟩
  have HN := Aside0.mk hn
  rw [← hn] at hm hc ⊢
  clear hn
  have HK := Aside0.mk hk
  clear hk
  go_enter Tryd.func31, Tryd.ntmps31
  go_wp2
  go_loopg [5, 8] n (fun gg _ s8 wr => ∃ kk : Nat, kk ≤ n ∧ n - kk ≤ gg ∧ s8 = .int .i64 kk ∧ Aside0 (Below w.heap.size w wr) ∧ Aside0 (∀ j : Nat, j < kk → ((rd_T25 l j).f0.toList == key.toList) = false))
  case atStart => exact ⟨0, Nat.zero_le _, by omega, rfl, ⟨Below.refl _ w⟩, ⟨fun j hj => absurd hj (Nat.not_lt_zero _)⟩⟩
  case round =>
    obtain ⟨kk, hkk, hg, rfl, BW, A0⟩ := hrel
    by_cases hlt : kk < n
    · have hltz : (kk : Int) < (n : Int) := by omega
      have hlt2 : (kk : Int) < (l.length : Int) := by rw [← HN.out]; exact hltz
      obtain ⟨ad, eA, h0, h1, h2⟩ := at_T25 (Kd.C_below HR.out BW.out) (kk : Int) (by omega) hlt2
      subst eA
      rw [Int.toNat_natCast] at h0 h1 h2
      have hcall := slices_IndexFunc_1.clo (rd_T25 l kk).f0 (rd_T25 l kk).f1 (rd_T25 l kk).f2 gb key wr ((BW.out.cell (p := ⟨gb, 0, none⟩) hgb).trans HK.out)
      generalize hy : rd_T25 l kk = y at h0 h1 h2 hcall
      have B := Aside0.mk hy
      clear hy
      cases hq : (y.f0.toList == key.toList) with
      | true =>
        rw [hq] at hcall
        go_wp2_with (go_at_call 32; refine hcall.mono ?_; rintro e w' ⟨rfl, hb'⟩)
        go_ret
        exact ⟨congrArg (fun z => Ending.returned (.int .i64 z)) (slices_IndexFunc_1.hit l key kk (by have := HN.out; omega) (by rw [B.out]; exact hq) A0.out).symm, below_step BW.out hb'⟩
      | false =>
        rw [hq] at hcall
        go_wp2_with (go_at_call 32; refine hcall.mono ?_; rintro e w' ⟨rfl, hb'⟩)
        go_roundg (n - (kk + 1))
        case measure => omega
        case rel =>
          refine ⟨kk + 1, by omega, by omega, by go_num, ⟨below_step BW.out hb'⟩, ⟨fun j hj => ?_⟩⟩
          by_cases e : j = kk
          · subst e
            rw [B.out]; exact hq
          · exact A0.out j (by omega)
    · have hltz : ¬ (kk : Int) < (n : Int) := by omega
      have hkn : kk = n := by omega
      subst hkn
      go_wp2
      go_ret
      exact ⟨congrArg (fun z => Ending.returned (.int .i64 z)) (slices_IndexFunc_1.miss l key (by rw [← HN.out]; exact A0.out)).symm, BW.out⟩
def slices_IndexFunc_1.f (l0 : List S25) (a1_0 : ByteArray) (a1_1 : Int) (a1_2 : Int) : Option Int := some (slices_IndexFunc_1.ix l0 a1_0)
theorem slices_IndexFunc_1.calls (A0 : Option Addr) (c0 : Nat) (l0 : List S25) (a1_0 : ByteArray) (a1_1 a1_2 : Int) (r : Int) (w : World) (hr0 : Kd.C k25 w A0 l0.length l0) (hc0 : l0.length ≤ c0) (gb : Nat) (hbk : w.heap[gb]? = some (.cells #[.string a1_0, .int .u64 a1_1, .int .u64 a1_2] 25 (0, 0))) (h : slices_IndexFunc_1.f l0 a1_0 a1_1 a1_2 = some r) :
    Calls Tryd.prog 31 #[.slice A0 l0.length c0, .func (.func 32) #[] #[.pointer (some ⟨gb, 0, none⟩)]] w fun e w' => e = .returned (.int .i64 r) ∧ Below w.heap.size w w' := by
  obtain rfl := Option.some.inj h
  exact slices_IndexFunc_1.walk A0 c0 l0 gb a1_0 w hr0 hc0 (blk_lt hbk) ((blk_cell hbk 0).trans rfl)
end

end Go.Proofs.YthjiiifnlhbffaaDoor.GKeepThreshold
