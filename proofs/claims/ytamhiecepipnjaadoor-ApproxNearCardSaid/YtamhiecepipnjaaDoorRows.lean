/-
  NARROWER THAN 'FOR EVERY INPUT', by the rows' own cells (each row's printed sentence says how): ApproxTwice: laid · ApproxBack: laid · ApproxRises: laid · ApproxNear: laid.
  DERIVED. THE GIVEN ROWS OF THIS SEAT. 4 by the template 'for every input the law returns true; each argument reads behind the call as it read before'; 0 by the template 'total and deterministic' (their statements: YtamhiecepipnjaaDoorTotals.lean).
  GIVEN WITH THE SEED: the statements are not yours to turn. If you find one false, say at which input.
  Laid BY PROGRAM, IN A SANDBOX (cutbox-rows.mjs): the forced cells as the released guide's own fill.sh prints them over the translation e59397351ef17d1e… (all of the seat's roots in one cut). By AI agents, Wed Nov 11 2026. No macro, syntax, notation, axiom, sorry.
-/
import Derived.Test.YtamhiecepipnjaaDoorChecked
import GoSem.PinnedTables
import GoSem.Claim
import GoSem.ClaimJoined
import GoSem.ClaimMapViews
import Derived.JoinedTies
import Derived.KernelRfl
namespace Go.Proofs.YtamhiecepipnjaaDoor
/- THE CELL 'sum', in the pinned program and in every row, IS THE sha256 OF THE DUMP (.gsa) THAT YtamhiecepipnjaaDoorProg.lean LOADS. Nothing in Lean hashes anything: it is a label: what it is worth is what the hold of that sum in a sandbox is worth. -/
noncomputable def Tryd.pinned : Pinned := { name := "ytamhiecepipnjaadoor", sum := "e59397351ef17d1e22394bf5773ae27cbd0864136c5e53c44ad23aa259af7854", checked := Tryd.checked }
namespace Rows
def none {H : Type} : Left H := { results := [], args := [] }

/- WHAT THE LISTED PACKAGE-LEVEL VARIABLES READ AS WHEN THE CALL BEGINS. Each datum BY PROGRAM (the guide's laid-datum.mjs) off the statement by which the dump's own 'gosem.cut.vars' lays the variable. In a bare row this is a premise. The card (YtamhiecepipnjaaDoorCards.lean) ties it to the program's text. -/
def laid_unicode_utf8_acceptRanges {H : Type} : DataW H := .agg [.agg [.lit (.int .u8 128), .lit (.int .u8 191)], .agg [.lit (.int .u8 160), .lit (.int .u8 191)], .agg [.lit (.int .u8 128), .lit (.int .u8 159)], .agg [.lit (.int .u8 144), .lit (.int .u8 191)], .agg [.lit (.int .u8 128), .lit (.int .u8 143)], .agg [.lit (.int .u8 0), .lit (.int .u8 0)], .agg [.lit (.int .u8 0), .lit (.int .u8 0)], .agg [.lit (.int .u8 0), .lit (.int .u8 0)], .agg [.lit (.int .u8 0), .lit (.int .u8 0)], .agg [.lit (.int .u8 0), .lit (.int .u8 0)], .agg [.lit (.int .u8 0), .lit (.int .u8 0)], .agg [.lit (.int .u8 0), .lit (.int .u8 0)], .agg [.lit (.int .u8 0), .lit (.int .u8 0)], .agg [.lit (.int .u8 0), .lit (.int .u8 0)], .agg [.lit (.int .u8 0), .lit (.int .u8 0)], .agg [.lit (.int .u8 0), .lit (.int .u8 0)]]
/-- One of Go's own tables, pinned by name: the form's constant. -/
def laid_unicode_utf8_first : DataW Unit := Go.Pinned.utf8First

/-- 'samphirelaw04.ApproxTwice': WHATEVER THE INPUT: true; the input reads as it did. -/
def approxTwiceSpec : ChangeSpec := { name := "approxTwice", fn := fun _ => fun
  | [d] => { results := [.lit (.bool true)], args := [d] }
  | _ => none }
def approxTwiceRow : OpenClaim := { program := "ytamhiecepipnjaadoor", sum := "e59397351ef17d1e22394bf5773ae27cbd0864136c5e53c44ad23aa259af7854", func := "samphire/samphirelaw04.ApproxTwice", spec := "approxTwice", inPlace := ["math.Float64frombits", "math.Float64bits", "internal/bytealg.IndexByteString", "internal/bytealg.IndexString"], unfollowed := true, recurses := true, named := ["unicode/utf8.first", "unicode/utf8.acceptRanges", "internal/bytealg.MaxLen"], apart := false, laid := [("unicode/utf8.acceptRanges", laid_unicode_utf8_acceptRanges), ("unicode/utf8.first", laid_unicode_utf8_first)] }
def ApproxTwiceSaid : Prop := approxTwiceRow.holds Tryd.pinned (OpenSpec.ofChange approxTwiceSpec)

/-- ITS FALSE NEIGHBOUR: 'it returns false'. Refute it at one input. -/
def approxTwiceWrong : ChangeSpec := { name := "approxTwice", fn := fun _ => fun
  | [d] => { results := [.lit (.bool false)], args := [d] }
  | _ => none }
def ApproxTwiceWrongFalsely : Prop := approxTwiceRow.holds Tryd.pinned (OpenSpec.ofChange approxTwiceWrong)

/-- 'samphirelaw04.ApproxBack': WHATEVER THE INPUT: true; the input reads as it did. -/
def approxBackSpec : ChangeSpec := { name := "approxBack", fn := fun _ => fun
  | [d] => { results := [.lit (.bool true)], args := [d] }
  | _ => none }
def approxBackRow : OpenClaim := { program := "ytamhiecepipnjaadoor", sum := "e59397351ef17d1e22394bf5773ae27cbd0864136c5e53c44ad23aa259af7854", func := "samphire/samphirelaw04.ApproxBack", spec := "approxBack", inPlace := ["math.Float64bits", "math.Float64frombits", "internal/bytealg.IndexByteString", "internal/bytealg.IndexString"], unfollowed := true, recurses := true, named := ["unicode/utf8.first", "unicode/utf8.acceptRanges", "internal/bytealg.MaxLen"], apart := false, laid := [("unicode/utf8.acceptRanges", laid_unicode_utf8_acceptRanges), ("unicode/utf8.first", laid_unicode_utf8_first)] }
def ApproxBackSaid : Prop := approxBackRow.holds Tryd.pinned (OpenSpec.ofChange approxBackSpec)

/-- ITS FALSE NEIGHBOUR: 'it returns false'. Refute it at one input. -/
def approxBackWrong : ChangeSpec := { name := "approxBack", fn := fun _ => fun
  | [d] => { results := [.lit (.bool false)], args := [d] }
  | _ => none }
def ApproxBackWrongFalsely : Prop := approxBackRow.holds Tryd.pinned (OpenSpec.ofChange approxBackWrong)

/-- 'samphirelaw04.ApproxRises': WHATEVER THE INPUT: true; the input reads as it did. -/
def approxRisesSpec : ChangeSpec := { name := "approxRises", fn := fun _ => fun
  | [d1, d2] => { results := [.lit (.bool true)], args := [d1, d2] }
  | _ => none }
def approxRisesRow : OpenClaim := { program := "ytamhiecepipnjaadoor", sum := "e59397351ef17d1e22394bf5773ae27cbd0864136c5e53c44ad23aa259af7854", func := "samphire/samphirelaw04.ApproxRises", spec := "approxRises", inPlace := ["math.Float64frombits", "math.Float64bits", "internal/bytealg.IndexByteString", "internal/bytealg.IndexString"], unfollowed := true, recurses := true, named := ["unicode/utf8.first", "unicode/utf8.acceptRanges", "internal/bytealg.MaxLen"], apart := false, laid := [("unicode/utf8.acceptRanges", laid_unicode_utf8_acceptRanges), ("unicode/utf8.first", laid_unicode_utf8_first)] }
def ApproxRisesSaid : Prop := approxRisesRow.holds Tryd.pinned (OpenSpec.ofChange approxRisesSpec)

/-- ITS FALSE NEIGHBOUR: 'it returns false'. Refute it at one input. -/
def approxRisesWrong : ChangeSpec := { name := "approxRises", fn := fun _ => fun
  | [d1, d2] => { results := [.lit (.bool false)], args := [d1, d2] }
  | _ => none }
def ApproxRisesWrongFalsely : Prop := approxRisesRow.holds Tryd.pinned (OpenSpec.ofChange approxRisesWrong)

/-- 'samphirelaw04.ApproxNear': WHATEVER THE INPUT: true; the input reads as it did. -/
def approxNearSpec : ChangeSpec := { name := "approxNear", fn := fun _ => fun
  | [d] => { results := [.lit (.bool true)], args := [d] }
  | _ => none }
def approxNearRow : OpenClaim := { program := "ytamhiecepipnjaadoor", sum := "e59397351ef17d1e22394bf5773ae27cbd0864136c5e53c44ad23aa259af7854", func := "samphire/samphirelaw04.ApproxNear", spec := "approxNear", inPlace := ["math.Float64frombits", "math.Float64bits", "internal/bytealg.IndexByteString", "internal/bytealg.IndexString"], unfollowed := true, recurses := true, named := ["unicode/utf8.first", "unicode/utf8.acceptRanges", "internal/bytealg.MaxLen"], apart := false, laid := [("unicode/utf8.acceptRanges", laid_unicode_utf8_acceptRanges), ("unicode/utf8.first", laid_unicode_utf8_first)] }
def ApproxNearSaid : Prop := approxNearRow.holds Tryd.pinned (OpenSpec.ofChange approxNearSpec)

/-- ITS FALSE NEIGHBOUR: 'it returns false'. Refute it at one input. -/
def approxNearWrong : ChangeSpec := { name := "approxNear", fn := fun _ => fun
  | [d] => { results := [.lit (.bool false)], args := [d] }
  | _ => none }
def ApproxNearWrongFalsely : Prop := approxNearRow.holds Tryd.pinned (OpenSpec.ofChange approxNearWrong)

/- THE SECOND FORM. 'bulk': how many values and letters a reading holds, each counted each time it is reached (what is shared counts as often as it is met; a slice's spare places count too). A statement '..UptoSaid' is the law's where the arguments, and the package variables that the reading takes, are together of bulk at most 1048576: NARROWER than '..Said'. Prove '..Said' where nothing that the law and all that it calls make is longer than what came in: it says more and counts as full. Else prove '..UptoSaid'. A law counts once. -/
mutual
def uptoBulk {H : Type} : DataW H → Nat
  | .lit (.string bytes) => bytes.length + 1
  | .lit _ => 1
  | .nil => 1
  | .ptr d => uptoBulk d + 1
  | .slice elems spare => uptoBulkAll elems + uptoBulkAll spare + 1
  | .agg parts => uptoBulkAll parts + 1
  | .iface _ d => uptoBulk d + 1
  | .map entries => uptoBulkEntries entries + 1
  | .held _ => 1
def uptoBulkAll {H : Type} : List (DataW H) → Nat
  | [] => 0
  | d :: r => uptoBulk d + uptoBulkAll r
def uptoBulkEntries {H : Type} : List (Lit × DataW H) → Nat
  | [] => 0
  | x :: r => uptoBulkEntry x + uptoBulkEntries r
def uptoBulkEntry {H : Type} : Lit × DataW H → Nat
  | (.string bytes, d) => bytes.length + uptoBulk d + 1
  | (_, d) => uptoBulk d + 1
 end
def uptoSmall : (H : Type) → List (DataW H) → Bool := fun _ ds => decide (uptoBulkAll ds ≤ 1048576)
def OpenSpec.upto (s : _root_.Go.ChangeSpec) : _root_.Go.OpenSpec := { _root_.Go.OpenSpec.ofChange s with cond := some uptoSmall }

/-- 'samphirelaw04.ApproxTwice', WHERE WHAT IT READS IS OF BULK AT MOST 1048576: true; the input reads as it did. -/
def approxTwiceUptoRow : OpenClaim := { program := "ytamhiecepipnjaadoor", sum := "e59397351ef17d1e22394bf5773ae27cbd0864136c5e53c44ad23aa259af7854", func := "samphire/samphirelaw04.ApproxTwice", spec := "approxTwice", inPlace := ["math.Float64frombits", "math.Float64bits", "internal/bytealg.IndexByteString", "internal/bytealg.IndexString"], unfollowed := true, recurses := true, named := ["unicode/utf8.first", "unicode/utf8.acceptRanges", "internal/bytealg.MaxLen"], apart := false, laid := [("unicode/utf8.acceptRanges", laid_unicode_utf8_acceptRanges), ("unicode/utf8.first", laid_unicode_utf8_first)], narrowed := true }
def ApproxTwiceUptoSaid : Prop := approxTwiceUptoRow.holds Tryd.pinned (OpenSpec.upto approxTwiceSpec)

/-- 'samphirelaw04.ApproxBack', WHERE WHAT IT READS IS OF BULK AT MOST 1048576: true; the input reads as it did. -/
def approxBackUptoRow : OpenClaim := { program := "ytamhiecepipnjaadoor", sum := "e59397351ef17d1e22394bf5773ae27cbd0864136c5e53c44ad23aa259af7854", func := "samphire/samphirelaw04.ApproxBack", spec := "approxBack", inPlace := ["math.Float64bits", "math.Float64frombits", "internal/bytealg.IndexByteString", "internal/bytealg.IndexString"], unfollowed := true, recurses := true, named := ["unicode/utf8.first", "unicode/utf8.acceptRanges", "internal/bytealg.MaxLen"], apart := false, laid := [("unicode/utf8.acceptRanges", laid_unicode_utf8_acceptRanges), ("unicode/utf8.first", laid_unicode_utf8_first)], narrowed := true }
def ApproxBackUptoSaid : Prop := approxBackUptoRow.holds Tryd.pinned (OpenSpec.upto approxBackSpec)

/-- 'samphirelaw04.ApproxRises', WHERE WHAT IT READS IS OF BULK AT MOST 1048576: true; the input reads as it did. -/
def approxRisesUptoRow : OpenClaim := { program := "ytamhiecepipnjaadoor", sum := "e59397351ef17d1e22394bf5773ae27cbd0864136c5e53c44ad23aa259af7854", func := "samphire/samphirelaw04.ApproxRises", spec := "approxRises", inPlace := ["math.Float64frombits", "math.Float64bits", "internal/bytealg.IndexByteString", "internal/bytealg.IndexString"], unfollowed := true, recurses := true, named := ["unicode/utf8.first", "unicode/utf8.acceptRanges", "internal/bytealg.MaxLen"], apart := false, laid := [("unicode/utf8.acceptRanges", laid_unicode_utf8_acceptRanges), ("unicode/utf8.first", laid_unicode_utf8_first)], narrowed := true }
def ApproxRisesUptoSaid : Prop := approxRisesUptoRow.holds Tryd.pinned (OpenSpec.upto approxRisesSpec)

/-- 'samphirelaw04.ApproxNear', WHERE WHAT IT READS IS OF BULK AT MOST 1048576: true; the input reads as it did. -/
def approxNearUptoRow : OpenClaim := { program := "ytamhiecepipnjaadoor", sum := "e59397351ef17d1e22394bf5773ae27cbd0864136c5e53c44ad23aa259af7854", func := "samphire/samphirelaw04.ApproxNear", spec := "approxNear", inPlace := ["math.Float64frombits", "math.Float64bits", "internal/bytealg.IndexByteString", "internal/bytealg.IndexString"], unfollowed := true, recurses := true, named := ["unicode/utf8.first", "unicode/utf8.acceptRanges", "internal/bytealg.MaxLen"], apart := false, laid := [("unicode/utf8.acceptRanges", laid_unicode_utf8_acceptRanges), ("unicode/utf8.first", laid_unicode_utf8_first)], narrowed := true }
def ApproxNearUptoSaid : Prop := approxNearUptoRow.holds Tryd.pinned (OpenSpec.upto approxNearSpec)

end Rows
end Go.Proofs.YtamhiecepipnjaaDoor
