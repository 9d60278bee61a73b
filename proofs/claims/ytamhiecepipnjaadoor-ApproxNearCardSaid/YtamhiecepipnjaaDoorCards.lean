/-
  DERIVED. GIVEN WITH THE SEED: THE CARDS: each row of YtamhiecepipnjaaDoorRows.lean that lists a variable, with what it lists TIED to the program's text (the seventh form; the later family's looks); each row that meets fmt, with fmt's text TOLD by the authors' own Lean function (tested against real Go, not proved from fmt's source: count such statements apart). THE CARD IS WHAT COUNTS. Prove the row's statement (the work); the ties are given (YtamhiecepipnjaaDoorTie.lean); close each card by the builder's one call (the guide's Derived/Test/ToyasCard.lean, 'card_holds'). Laid BY PROGRAM, IN A SANDBOX (cutbox-door.mjs). By AI agents, Wed Nov 11 2026. No macro, syntax, notation, axiom, sorry.
-/
import Derived.Test.YtamhiecepipnjaaDoorRows
import GoSem.ClaimSeven
namespace Go.Proofs.YtamhiecepipnjaaDoor
namespace Rows

/-- THE TIED CARD OF 'samphirelaw04.ApproxTwice'. -/
def approxTwiceCard : Claim7 := { stood := { row := approxTwiceRow, standIns := [], harness := (true, "d0685f88781b290dea171c250b81603065c3797546d5a819030704ecfd0ee691"), looks := false }, kinds := [], alts := [], laidByText := true, laidKinds := [.data, .pinned], laidTests := true, laidLooks := .later }
def ApproxTwiceCardSaid : Prop := Claim7.holds Tryd.pinned (.plain (OpenSpec.ofChange approxTwiceSpec)) approxTwiceCard

/-- THE TIED CARD OF 'samphirelaw04.ApproxBack'. -/
def approxBackCard : Claim7 := { stood := { row := approxBackRow, standIns := [], harness := (true, "d0685f88781b290dea171c250b81603065c3797546d5a819030704ecfd0ee691"), looks := false }, kinds := [], alts := [], laidByText := true, laidKinds := [.data, .pinned], laidTests := true, laidLooks := .later }
def ApproxBackCardSaid : Prop := Claim7.holds Tryd.pinned (.plain (OpenSpec.ofChange approxBackSpec)) approxBackCard

/-- THE TIED CARD OF 'samphirelaw04.ApproxRises'. -/
def approxRisesCard : Claim7 := { stood := { row := approxRisesRow, standIns := [], harness := (true, "d0685f88781b290dea171c250b81603065c3797546d5a819030704ecfd0ee691"), looks := false }, kinds := [], alts := [], laidByText := true, laidKinds := [.data, .pinned], laidTests := true, laidLooks := .later }
def ApproxRisesCardSaid : Prop := Claim7.holds Tryd.pinned (.plain (OpenSpec.ofChange approxRisesSpec)) approxRisesCard

/-- THE TIED CARD OF 'samphirelaw04.ApproxNear'. -/
def approxNearCard : Claim7 := { stood := { row := approxNearRow, standIns := [], harness := (true, "d0685f88781b290dea171c250b81603065c3797546d5a819030704ecfd0ee691"), looks := false }, kinds := [], alts := [], laidByText := true, laidKinds := [.data, .pinned], laidTests := true, laidLooks := .later }
def ApproxNearCardSaid : Prop := Claim7.holds Tryd.pinned (.plain (OpenSpec.ofChange approxNearSpec)) approxNearCard

/-- THE SECOND FORM's CARD OF 'samphirelaw04.ApproxTwice'. -/
def approxTwiceUptoCard : Claim7 := { stood := { row := approxTwiceUptoRow, standIns := [], harness := (true, "d0685f88781b290dea171c250b81603065c3797546d5a819030704ecfd0ee691"), looks := false }, kinds := [], alts := [], laidByText := true, laidKinds := [.data, .pinned], laidTests := true, laidLooks := .later }
def ApproxTwiceUptoCardSaid : Prop := Claim7.holds Tryd.pinned (.plain (OpenSpec.upto approxTwiceSpec)) approxTwiceUptoCard

/-- THE SECOND FORM's CARD OF 'samphirelaw04.ApproxBack'. -/
def approxBackUptoCard : Claim7 := { stood := { row := approxBackUptoRow, standIns := [], harness := (true, "d0685f88781b290dea171c250b81603065c3797546d5a819030704ecfd0ee691"), looks := false }, kinds := [], alts := [], laidByText := true, laidKinds := [.data, .pinned], laidTests := true, laidLooks := .later }
def ApproxBackUptoCardSaid : Prop := Claim7.holds Tryd.pinned (.plain (OpenSpec.upto approxBackSpec)) approxBackUptoCard

/-- THE SECOND FORM's CARD OF 'samphirelaw04.ApproxRises'. -/
def approxRisesUptoCard : Claim7 := { stood := { row := approxRisesUptoRow, standIns := [], harness := (true, "d0685f88781b290dea171c250b81603065c3797546d5a819030704ecfd0ee691"), looks := false }, kinds := [], alts := [], laidByText := true, laidKinds := [.data, .pinned], laidTests := true, laidLooks := .later }
def ApproxRisesUptoCardSaid : Prop := Claim7.holds Tryd.pinned (.plain (OpenSpec.upto approxRisesSpec)) approxRisesUptoCard

/-- THE SECOND FORM's CARD OF 'samphirelaw04.ApproxNear'. -/
def approxNearUptoCard : Claim7 := { stood := { row := approxNearUptoRow, standIns := [], harness := (true, "d0685f88781b290dea171c250b81603065c3797546d5a819030704ecfd0ee691"), looks := false }, kinds := [], alts := [], laidByText := true, laidKinds := [.data, .pinned], laidTests := true, laidLooks := .later }
def ApproxNearUptoCardSaid : Prop := Claim7.holds Tryd.pinned (.plain (OpenSpec.upto approxNearSpec)) approxNearUptoCard
end Rows
end Go.Proofs.YtamhiecepipnjaaDoor
