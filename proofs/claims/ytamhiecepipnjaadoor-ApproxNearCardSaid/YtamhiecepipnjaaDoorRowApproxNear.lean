/- The row and the card of ApproxNear (one fraction comes in), out of the law over the printed functions. -/
import Derived.Test.YtamhiecepipnjaaDoorTie
import Derived.Test.YtamhiecepipnjaaDoorCards
import Derived.Test.YtamhiecepipnjaaDoorLNearApproxNear
import Derived.WalkKit
import Derived.ProofKit
import Derived.OpenShut
import Derived.ChangeOld
import Derived.Below
import Derived.SizedLaws
import Derived.LaidMore
import Derived.Lay
import Derived.SevenTiedAt
import Derived.Stop.Joined
import Derived.Lib.SmallJoins
namespace Go.Proofs.YtamhiecepipnjaaDoor.RowApproxNear
open Go Go.ChangeShapes Go.WideShapes Go.ChangeAt Go.RowKit Go.Joins
open Go.Proofs.YtamhiecepipnjaaDoorW.PrintWords Go.Proofs.YtamhiecepipnjaaDoor.Pl
set_option linter.unusedVariables false
theorem own : ownKnob Tryd.prog.godebug = none := by kernel_rfl
theorem laidOut : laidOutB Tryd.prog = true := by kernel_rfl
theorem cellsRat : Tryd.prog.cellsOf 25 = 2 := by kernel_rfl
/-- What is listed. -/
def laid : List (String × DataW Unit) := [("unicode/utf8.acceptRanges", Rows.laid_unicode_utf8_acceptRanges), ("unicode/utf8.first", Rows.laid_unicode_utf8_first)]
theorem wf_u32 {l : List Int} (h : ∀ x ∈ l, (Lit.int .u32 x).wf = true) : Wf l := fun x hx => by
  have := h x hx
  simp [Lit.wf, IntKind.min, IntKind.max, IntKind.bits, IntKind.signed] at this
  omega
/-- A field of limbs, opened. -/
theorem row_of {H : Type} {enc : TypeId × Value → H} {W : World} {spare : Nat → Bool} {held : Bool} {n : Nat} {c : Value} {y : DataW H × List MemPlace} (h : DataW.trod enc Tryd.prog W 0 spare held n 23 [c] = some y) :
    ∃ (a : Option Addr) (cap : Nat) (l : List Int), c = .slice a l.length cap ∧ ReadsInt W .u32 a l.length l ∧ (∀ x ∈ l, (Lit.int .u32 x).wf = true) ∧ l.length ≤ cap := by
  rcases open_ints Tryd.underlying23 Tryd.underlying47 (by kernel_rfl) h with ⟨hcs, _⟩ | ⟨x, l, cp, zs, hcs, _, hl, hm, hz, _, hcell, hwz⟩
  · obtain ⟨l, h1, h2, _, h4, h5⟩ := ReadsInt.ofRowC (k := .u32) (w := W) (a := none) (len := 0) (cap := 0) (zs := []) (.inl ⟨rfl, rfl, rfl, rfl⟩)
    refine ⟨none, 0, l, ?_, h2, h4, h5⟩
    simp only [List.cons.injEq, and_true] at hcs
    rw [hcs, ← h1]
  · by_cases hs : spare x.block = true
    · rw [if_pos hs] at hz
      obtain ⟨z, h1, h2, _, h4, h5⟩ := ReadsInt.ofRowC (k := .u32) (w := W) (a := some x) (len := l) (cap := cp) (zs := zs) (.inr ⟨x, rfl, hl, hm, hz, hcell, hwz⟩)
      refine ⟨some x, cp, z, ?_, h2, h4, h5⟩
      simp only [List.cons.injEq, and_true] at hcs
      rw [hcs, ← h1]
    · rw [if_neg hs] at hz
      obtain ⟨z, h1, h2, _, h4, h5⟩ := ReadsInt.ofRowC (k := .u32) (w := W) (a := some x) (len := l) (cap := l) (zs := zs) (.inr ⟨x, rfl, Nat.le_refl _, Nat.le_trans hl hm, hz, hcell, hwz⟩)
      refine ⟨some x, cp, z, ?_, h2, h4, by omega⟩
      simp only [List.cons.injEq, and_true] at hcs
      rw [hcs, ← h1]
set_option maxRecDepth 100000 in
theorem lifted (os : Os) (started : os.Started) (H : Type) (enc : TypeId × Value → H) :
    ReturnsInHanded {} Tryd.checked os 6 .any (fun w args => (Rows.approxNearSpec.pre enc Tryd.prog Tryd.f6 Rows.approxNearRow.domain false w args ∧ laidMetH Tryd.prog laid w) ∧ sizedMet enc Tryd.prog Tryd.f6 (OpenSpec.ofChange Rows.approxNearSpec) false w args)
      (Rows.approxNearSpec.post enc Tryd.prog Tryd.f6 false true false false) := by
  refine returnsInHanded_of_change_and (C := Tryd.checked) (X := fun w _ => laidMetH Tryd.prog laid w) (fun _ _ _ hh h => h.of_heap hh) own started (by kernel_rfl) Tryd.func6
    (ChangeSpec.witness_shaped (enc := enc) (C := Tryd.checked) (os := os) (X := fun w _ => laidMetH Tryd.prog laid w) false (World.laidAll Tryd.prog os laid) #[.agg #[.slice none 0 0, .slice none 0 0]] 8 (World.laidAll_os _ _ _)
      (World.shaped_of_ZipB (by kernel_rfl) (by kernel_rfl)) (by kernel_rfl) (by kernel_rfl) (by kernel_rfl)
      (by rw [MakeChecks.laidMetH_plain _ _ _ (by kernel_rfl)]; exact laidMet_laidAll _ (by kernel_rfl) (by kernel_rfl))) ?_
  intro W base args ds gs before hval0 hW hcnd _ hL _
  have hval : ∀ (j : Nat) t v, Tryd.f6.params[j]? = some t → args[j]? = some v → Value.okWide Tryd.prog W .any base t v := hval0
  have hW' := hW
  obtain ⟨p, q, hA0, hV, rfl, hfz, hnd⟩ := hW
  have hA : DataW.TrodAll enc Tryd.prog W 0 (fun _ => true) true Tryd.f6.params.toList args.toList ds p := hA0
  rw [Tryd.params6] at hA hval
  obtain ⟨v0, d0, rfl, rfl, h0⟩ := trodAll_one hA
  obtain ⟨rfl, rfl⟩ := trodVars_none hV
  have k0 := h0
  have lt0 : ∀ x ∈ p, x.block < W.heap.size := by obtain ⟨m, hm⟩ := k0; exact DataW.trod_lt m _ _ _ hm
  obtain ⟨c0, c1, y0, y1, m, rfl, rfl, rfl, hy0, hy1⟩ := open_agg2 Tryd.underlying25 (by kernel_rfl) cellsRat (hval 0 25 v0 rfl rfl) h0
  obtain ⟨a0, cap0, l0, rfl, hr0, hw0, hc0⟩ := row_of hy0
  obtain ⟨a1, cap1, l1, rfl, hr1, hw1, hc1⟩ := row_of hy1
  clear hA0 hval0 hL
  obtain ⟨k, hk⟩ := GApproxNear.law_k (wf_u32 hw0) (wf_u32 hw1)
  refine (GApproxNear.samphirelaw04_ApproxNear.calls k _ _ l0 _ _ l1 true W (Kd.C_of_reads (d := (0 : Int)) (h1 := fun _ => rfl) hr0) hc0 (Kd.C_of_reads (d := (0 : Int)) (h1 := fun _ => rfl) hr1) hc1 hk).mono fun e W' ⟨he, bel⟩ => ?_
  subst he
  exact ⟨_, rfl, _, _, _, [], _, [], hW', trodAll_mk1 (shut_bool Tryd.underlying4 _), trodAll_mk1 (Below.trod laidOut (by kernel_rfl) (of_decide_eq_true (by kernel_rfl)) k0 bel lt0), rfl, bel.frame _, fun h => by cases h⟩
theorem holds : Rows.ApproxNearSaid :=
  OpenClaim.holds_of_wide 6 Tryd.f6 rfl rfl rfl rfl rfl rfl rfl ⟨rfl, rfl, rfl, rfl, rfl⟩ rfl rfl rfl rfl rfl (by kernel_rfl) Tryd.func6 (by kernel_rfl)
    (of_decide_eq_true (by kernel_rfl)) (by unfold Func.isWrapper; first | (rw [if_pos (by decide +kernel)]; kernel_rfl) | (rw [if_neg (by decide +kernel)]; exact ⟨rfl, rfl⟩))
    (fun os started H enc _ => lifted os started H enc)
theorem card_holds : Rows.ApproxNearCardSaid :=
  Claim7.holds_tied_plain_at .later [] [.data, .pinned] true (true, "d0685f88781b290dea171c250b81603065c3797546d5a819030704ecfd0ee691") false holds (fun _ h => by cases h) (by kernel_rfl) (fun _ h => by cases h) approxNear_row_tie rfl ⟨rfl, rfl⟩ (by kernel_rfl) rfl
    (fun f fn hf hfn => by
      obtain rfl : f = 6 := Option.some.inj ((show Tryd.prog.funcNamed "samphire/samphirelaw04.ApproxNear" = some 6 by kernel_rfl).symm.trans hf) |>.symm
      obtain rfl : fn = Tryd.f6 := (Option.some.inj (Tryd.func6.symm.trans hfn)).symm
      exact ⟨by kernel_rfl, fun j t ht => by
        rw [Tryd.params6] at ht
        have hm : t ∈ [25] := by simpa using Array.mem_of_getElem? ht
        have hall : ([25].all fun u => !Tryd.prog.wantsStandIn u) = true := by kernel_rfl
        exact (show Tryd.prog.wantsStandIn t = false by simpa using List.all_eq_true.1 hall t hm)⟩)
    (by kernel_rfl)
#print axioms card_holds
end Go.Proofs.YtamhiecepipnjaaDoor.RowApproxNear
