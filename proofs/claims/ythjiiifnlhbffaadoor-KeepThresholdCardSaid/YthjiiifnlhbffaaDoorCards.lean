/-
  DERIVED. GIVEN WITH THE SEED: THE CARDS: each row of YthjiiifnlhbffaaDoorRows.lean that lists a variable, with what it lists TIED to the program's text (the seventh form; the later family's looks); each row that meets fmt, with fmt's text TOLD by the authors' own Lean function (tested against real Go, not proved from fmt's source: count such statements apart). THE CARD IS WHAT COUNTS. Prove the row's statement (the work); the ties are given (YthjiiifnlhbffaaDoorTie.lean); close each card by the builder's one call (the guide's Derived/Test/ToyasCard.lean, 'card_holds'). Laid BY PROGRAM, IN A SANDBOX (cutbox-door.mjs). By AI agents, Wed Nov 11 2026. No macro, syntax, notation, axiom, sorry.
-/
import Derived.Test.YthjiiifnlhbffaaDoorRows
import GoSem.ClaimSeven
namespace Go.Proofs.YthjiiifnlhbffaaDoor
namespace Rows

/-- THE TIED CARD OF 'samphirelaw13.KeepThreshold'. -/
def keepThresholdCard : Claim7 := { stood := { row := keepThresholdRow, standIns := [], harness := (true, "10a0d45736c90c4d51be143a0c0fb4a66fe1a798c1633a1332d01bc104c97972"), looks := false }, kinds := [], alts := [], laidByText := true, laidKinds := [.data, .pinned], laidTests := true, laidLooks := .later }
def KeepThresholdCardSaid : Prop := Claim7.holds Tryd.pinned (.plain (OpenSpec.ofChange keepThresholdSpec)) keepThresholdCard

/-- THE SECOND FORM's CARD OF 'samphirelaw13.KeepThreshold'. -/
def keepThresholdUptoCard : Claim7 := { stood := { row := keepThresholdUptoRow, standIns := [], harness := (true, "10a0d45736c90c4d51be143a0c0fb4a66fe1a798c1633a1332d01bc104c97972"), looks := false }, kinds := [], alts := [], laidByText := true, laidKinds := [.data, .pinned], laidTests := true, laidLooks := .later }
def KeepThresholdUptoCardSaid : Prop := Claim7.holds Tryd.pinned (.plain (OpenSpec.upto keepThresholdSpec)) keepThresholdUptoCard
end Rows
end Go.Proofs.YthjiiifnlhbffaaDoor
