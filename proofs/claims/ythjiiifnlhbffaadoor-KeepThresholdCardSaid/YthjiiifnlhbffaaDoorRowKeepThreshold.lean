/- The row and the card of KeepThreshold (a whole number, a slice of items, an item come in), out of the law over the printed functions. -/
import Derived.Test.YthjiiifnlhbffaaDoorTie
import Derived.Test.YthjiiifnlhbffaaDoorCards
import Derived.Test.YthjiiifnlhbffaaDoorLKThrKeepThreshold
import Derived.WalkKit
import Derived.ProofKit
import Derived.OpenShut
import Derived.ChangeOld
import Derived.Below
import Derived.SizedLaws
import Derived.LaidMore
import Derived.Lay
import Derived.SevenTiedAt
import Derived.Stop.Joined
import Derived.Lib.SmallJoins
namespace Go.Proofs.YthjiiifnlhbffaaDoor.RowKeepThreshold
open Go Go.ChangeShapes Go.WideShapes Go.ChangeAt Go.RowKit Go.Joins Go.Deep
open Go.Proofs.YthjiiifnlhbffaaDoorW.PrintWords Go.Proofs.YthjiiifnlhbffaaDoor.Pl Go.Proofs.YthjiiifnlhbffaaDoor.GKeepThreshold
set_option linter.unusedVariables false
theorem own : ownKnob Tryd.prog.godebug = none := by kernel_rfl
theorem laidOut : laidOutB Tryd.prog = true := by kernel_rfl
theorem cellsItem : Tryd.prog.cellsOf 25 = 3 := by kernel_rfl
theorem cellsKey : Tryd.prog.cellsOf 9 = 1 := by kernel_rfl
theorem cellsU64 : Tryd.prog.cellsOf 23 = 1 := by kernel_rfl
/-- What is listed. -/
def laid : List (String × DataW Unit) := [("unicode/utf8.acceptRanges", Rows.laid_unicode_utf8_acceptRanges), ("unicode/utf8.first", Rows.laid_unicode_utf8_first)]
theorem wf_u64 {n : Int} (h : (Lit.int .u64 n).wf = true) : 0 ≤ n ∧ n < 18446744073709551616 := by
  simp [Lit.wf, IntKind.min, IntKind.max, IntKind.bits, IntKind.signed] at h
  omega
theorem wfI_of {x : S25} (h1 : (Lit.int .u64 x.f1).wf = true) (h2 : (Lit.int .u64 x.f2).wf = true) : WfI x := ⟨(wf_u64 h1).1, (wf_u64 h1).2, (wf_u64 h2).1, (wf_u64 h2).2⟩
theorem list3 {α : Type} {l : List α} (h : l.length = 3) : ∃ a b c, l = [a, b, c] := by
  match l, h with
  | [a, b, c], _ => exact ⟨a, b, c, rfl⟩
/-- The items, opened. -/
theorem items_of {H : Type} {enc : TypeId × Value → H} {W : World} {spare : Nat → Bool} {held : Bool} {n : Nat} {c : Value} {y : DataW H × List MemPlace} (h : DataW.trod enc Tryd.prog W 0 spare held n 22 [c] = some y) :
    ∃ (a : Option Addr) (cap : Nat) (l : List S25), c = .slice a l.length cap ∧ Kd.C k25 W a l.length l ∧ (∀ x ∈ l, WfI x) ∧ l.length ≤ cap := by
  rcases open_slice Tryd.underlying22 h with ⟨hcs, _⟩ | ⟨a, len, cap, m, n, D, Pl, hcs, _, hl, hm, hmm, _, hx⟩
  · simp only [List.cons.injEq, and_true] at hcs
    exact ⟨none, 0, [], by rw [hcs]; rfl, Kd.C_nil _ _, fun x hx => by simp at hx, Nat.zero_le _⟩
  have hlm : len ≤ m := by rw [hmm]; split <;> omega
  have each : ∀ i, ∃ x : S25, i < len → WfI x ∧ W.cell? (a.add (i * 3)) = some (.string x.f0) ∧ W.cell? (a.add (i * 3 + 1)) = some (.int .u64 x.f1) ∧ W.cell? (a.add (i * 3 + 2)) = some (.int .u64 x.f2) := by
    intro i
    by_cases hi : i < len
    · obtain ⟨cs', h1, h2⟩ := hx i (by omega)
      rw [cellsItem] at h1
      obtain ⟨_, hlen, hcell⟩ := World.cells?_some h1
      obtain ⟨y0, y1, y2, k, hxy, _, u0, u1, u2⟩ := trod_struct3 Tryd.underlying25 h2
      obtain ⟨v0, v1, v2, rfl⟩ := list3 hlen
      simp only [cellsKey, cellsU64, List.drop, List.take] at u0 u1 u2
      obtain ⟨s, e0, d0, _⟩ := DataW.trod_string Tryd.underlying9 u0
      obtain ⟨q, e1, d1, hw1⟩ := DataW.trod_int Tryd.underlying23 u1
      obtain ⟨p, e2, d2, hw2⟩ := DataW.trod_int Tryd.underlying23 u2
      simp only [List.cons.injEq, and_true] at e0 e1 e2
      subst e0; subst e1; subst e2
      have c0 := hcell 0 (by omega)
      have c1 := hcell 1 (by omega)
      have c2 := hcell 2 (by omega)
      rw [Go.Deep.add_add] at c0 c1 c2
      exact ⟨⟨s, q, p⟩, fun _ => ⟨wfI_of hw1 hw2, by simpa using c0, by simpa using c1, by simpa using c2⟩⟩
    · exact ⟨z25, fun h => absurd h hi⟩
  obtain ⟨f, hf⟩ : ∃ f : Nat → S25, ∀ i, i < len → WfI (f i) ∧ W.cell? (a.add (i * 3)) = some (.string (f i).f0) ∧ W.cell? (a.add (i * 3 + 1)) = some (.int .u64 (f i).f1) ∧ W.cell? (a.add (i * 3 + 2)) = some (.int .u64 (f i).f2) :=
    ⟨fun i => Classical.choose (each i), fun i => Classical.choose_spec (each i)⟩
  simp only [List.cons.injEq, and_true] at hcs
  have hll : ((List.range len).map f).length = len := by simp
  refine ⟨some a, cap, (List.range len).map f, by rw [hcs, hll], ⟨rfl, ?_, fun _ => ⟨a, rfl, fun j p hp => ?_⟩⟩, fun x hx => ?_, by rw [hll]; exact hl⟩
  · rw [hll]
    have : maxLen ≤ 9223372036854775807 := by decide
    omega
  · rw [List.getElem?_map] at hp
    obtain ⟨i, hi, rfl⟩ := Option.map_eq_some_iff.1 hp
    obtain ⟨hi1, hi2⟩ := List.getElem?_eq_some_iff.1 hi
    rw [List.getElem_range] at hi2
    subst hi2
    rw [List.length_range] at hi1
    obtain ⟨_, c0, c1, c2⟩ := hf j hi1
    refine ⟨_, rfl, k25_mk W (f j), fun i u hu => ?_⟩
    match i, hu with
    | 0, hu => obtain rfl := Option.some.inj hu; exact c0
    | 1, hu => obtain rfl := Option.some.inj hu; exact c1
    | 2, hu => obtain rfl := Option.some.inj hu; exact c2
    | i + 3, hu => simp at hu
  · obtain ⟨i, hi, rfl⟩ := List.mem_map.1 hx
    exact (hf i (List.mem_range.1 hi)).1
set_option maxRecDepth 100000 in
theorem lifted (os : Os) (started : os.Started) (H : Type) (enc : TypeId × Value → H) :
    ReturnsInHanded {} Tryd.checked os 3 .any (fun w args => (Rows.keepThresholdSpec.pre enc Tryd.prog Tryd.f3 Rows.keepThresholdRow.domain false w args ∧ laidMetH Tryd.prog laid w) ∧ sizedMet enc Tryd.prog Tryd.f3 (OpenSpec.ofChange Rows.keepThresholdSpec) false w args)
      (Rows.keepThresholdSpec.post enc Tryd.prog Tryd.f3 false true false false) := by
  refine returnsInHanded_of_change_and (C := Tryd.checked) (X := fun w _ => laidMetH Tryd.prog laid w) (fun _ _ _ hh h => h.of_heap hh) own started (by kernel_rfl) Tryd.func3
    (ChangeSpec.witness_shaped (enc := enc) (C := Tryd.checked) (os := os) (X := fun w _ => laidMetH Tryd.prog laid w) false (World.laidAll Tryd.prog os laid) #[.int .i64 0, .slice none 0 0, .agg #[.string ⟨#[]⟩, .int .u64 0, .int .u64 0]] 8 (World.laidAll_os _ _ _)
      (World.shaped_of_ZipB (by kernel_rfl) (by kernel_rfl)) (by kernel_rfl) (by kernel_rfl) (by kernel_rfl)
      (by rw [MakeChecks.laidMetH_plain _ _ _ (by kernel_rfl)]; exact laidMet_laidAll _ (by kernel_rfl) (by kernel_rfl))) ?_
  intro W base args ds gs before hval0 hW hcnd _ hL _
  have hval : ∀ (j : Nat) t v, Tryd.f3.params[j]? = some t → args[j]? = some v → Value.okWide Tryd.prog W .any base t v := hval0
  have hW' := hW
  obtain ⟨p, q, hA0, hV, rfl, hfz, hnd⟩ := hW
  have hA : DataW.TrodAll enc Tryd.prog W 0 (fun _ => true) true Tryd.f3.params.toList args.toList ds p := hA0
  rw [Tryd.params3] at hA hval
  obtain ⟨v0, vs0, d0, ds0, p0, q0, hargs, rfl, rfl, h0, r0⟩ := trodAll_cons hA
  obtain ⟨v1, vs1, d1, ds1, p1, q1, rfl, rfl, rfl, h1, r1⟩ := trodAll_cons r0
  obtain ⟨v2, vs2, d2, ds2, p2, q2, rfl, rfl, rfl, h2, r2⟩ := trodAll_cons r1
  obtain ⟨rfl, rfl, rfl⟩ := trodAll_nil r2
  obtain rfl : args = #[v0, v1, v2] := by cases args; simp_all
  obtain ⟨rfl, rfl⟩ := trodVars_none hV
  have k0 := h0
  have k1 := h1
  have k2 := h2
  have lt0 : ∀ x ∈ p0, x.block < W.heap.size := by obtain ⟨m, hm⟩ := k0; exact DataW.trod_lt m _ _ _ hm
  have lt1 : ∀ x ∈ p1, x.block < W.heap.size := by obtain ⟨m, hm⟩ := k1; exact DataW.trod_lt m _ _ _ hm
  have lt2 : ∀ x ∈ p2, x.block < W.heap.size := by obtain ⟨m, hm⟩ := k2; exact DataW.trod_lt m _ _ _ hm
  obtain ⟨n0, rfl, rfl, rfl, hw0⟩ := open_int Tryd.underlying3 (hval 0 3 v0 rfl rfl) h0
  obtain ⟨sa, sl, sc, rfl⟩ := okWide_slice Tryd.underlying22 (hval 1 22 v1 rfl rfl)
  obtain ⟨m1, hm1⟩ := h1
  obtain ⟨a1, cap1, l1, hc1, hr1, hwf1, hle1⟩ := items_of hm1
  obtain ⟨rfl, rfl, rfl⟩ := Value.slice.inj hc1
  obtain ⟨c0, c1, c2, y0, y1, y2, m, rfl, rfl, rfl, hy0, hy1, hy2⟩ := open_agg3 Tryd.underlying25 (by kernel_rfl) cellsItem (hval 2 25 v2 rfl rfl) h2
  obtain ⟨s, e0, _, _⟩ := DataW.trod_string Tryd.underlying9 hy0
  obtain ⟨u, e1, _, hwu⟩ := DataW.trod_int Tryd.underlying23 hy1
  obtain ⟨v, e2, _, hwv⟩ := DataW.trod_int Tryd.underlying23 hy2
  simp only [List.cons.injEq, and_true] at e0 e1 e2
  subst e0; subst e1; subst e2
  clear hA0 hval0 hL
  obtain ⟨k, hk⟩ := law_k (a := n0) (x := ⟨s, u, v⟩) hwf1 (wfI_of hwu hwv)
  refine (samphirelaw13_KeepThreshold.calls k n0 _ _ l1 s u v true W hr1 hle1 hk).mono fun e W' ⟨he, bel⟩ => ?_
  subst he
  exact ⟨_, rfl, _, _, _, [], _, [], hW', trodAll_mk1 (shut_bool Tryd.underlying4 _), (trodAll_cons_mk (Below.trod laidOut (by kernel_rfl) (of_decide_eq_true (by kernel_rfl)) k0 bel lt0) (trodAll_cons_mk (Below.trod laidOut (by kernel_rfl) (of_decide_eq_true (by kernel_rfl)) k1 bel lt1) (trodAll_cons_mk (Below.trod laidOut (by kernel_rfl) (of_decide_eq_true (by kernel_rfl)) k2 bel lt2) trodAll_mk0))), rfl, bel.frame _, fun h => by cases h⟩
theorem holds : Rows.KeepThresholdSaid :=
  OpenClaim.holds_of_wide 3 Tryd.f3 rfl rfl rfl rfl rfl rfl rfl ⟨rfl, rfl, rfl, rfl, rfl⟩ rfl rfl rfl rfl rfl (by kernel_rfl) Tryd.func3 (by kernel_rfl)
    (of_decide_eq_true (by kernel_rfl)) (by unfold Func.isWrapper; first | (rw [if_pos (by decide +kernel)]; kernel_rfl) | (rw [if_neg (by decide +kernel)]; exact ⟨rfl, rfl⟩))
    (fun os started H enc _ => lifted os started H enc)
theorem card_holds : Rows.KeepThresholdCardSaid :=
  Claim7.holds_tied_plain_at .later [] [.data, .pinned] true (true, "10a0d45736c90c4d51be143a0c0fb4a66fe1a798c1633a1332d01bc104c97972") false holds (fun _ h => by cases h) (by kernel_rfl) (fun _ h => by cases h) keepThreshold_row_tie rfl ⟨rfl, rfl⟩ (by kernel_rfl) rfl
    (fun f fn hf hfn => by
      obtain rfl : f = 3 := Option.some.inj ((show Tryd.prog.funcNamed "samphire/samphirelaw13.KeepThreshold" = some 3 by kernel_rfl).symm.trans hf) |>.symm
      obtain rfl : fn = Tryd.f3 := (Option.some.inj (Tryd.func3.symm.trans hfn)).symm
      exact ⟨by kernel_rfl, fun j t ht => by
        rw [Tryd.params3] at ht
        have hm : t ∈ [3, 22, 25] := by simpa using Array.mem_of_getElem? ht
        have hall : ([3, 22, 25].all fun u => !Tryd.prog.wantsStandIn u) = true := by kernel_rfl
        exact (show Tryd.prog.wantsStandIn t = false by simpa using List.all_eq_true.1 hall t hm)⟩)
    (by kernel_rfl)
#print axioms card_holds
end Go.Proofs.YthjiiifnlhbffaaDoor.RowKeepThreshold
