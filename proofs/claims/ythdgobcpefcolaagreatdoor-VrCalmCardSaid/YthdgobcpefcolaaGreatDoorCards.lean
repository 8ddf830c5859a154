/-
  DERIVED. GIVEN WITH THE SEED: THE CARDS: each row of YthdgobcpefcolaaGreatDoorRows.lean that lists a variable, with what it lists TIED to the program's text (the seventh form; the later family's looks); each row that meets fmt, with fmt's text TOLD by the authors' own Lean function (tested against real Go, not proved from fmt's source: count such statements apart). THE CARD IS WHAT COUNTS. Prove the row's statement (the work); the ties are given (YthdgobcpefcolaaGreatDoorTie.lean); close each card by the builder's one call (the guide's Derived/Test/ToyasCard.lean, 'card_holds'). Laid BY PROGRAM, IN A SANDBOX (cutbox-door.mjs). By AI agents, Wed Nov 11 2026. No macro, syntax, notation, axiom, sorry.
-/
import Derived.Test.YthdgobcpefcolaaGreatDoorRows
import GoSem.ClaimSeven
namespace Go.Proofs.YthdgobcpefcolaaGreatDoor
namespace Rows

/-- THE TIED CARD OF 'tidemarklaw25.VrTwins'. -/
def vrTwinsCard : Claim7 := { stood := { row := vrTwinsRow, standIns := [], harness := (true, "db64db8ce638f1e80b939c2fd26b49b439462f43629781df9bf0898b641d7a6b"), looks := true }, kinds := [], alts := [], laidByText := true, laidKinds := [.data, .data, .data, .sentinel, .sentinel], laidTests := true, laidLooks := .later }
def VrTwinsCardSaid : Prop := Claim7.holds Tryz.pinned (.plain (OpenSpec.ofChange vrTwinsSpec)) vrTwinsCard

/-- THE TIED CARD OF 'tidemarklaw25.VrCalm'. -/
def vrCalmCard : Claim7 := { stood := { row := vrCalmRow, standIns := [], harness := (true, "db64db8ce638f1e80b939c2fd26b49b439462f43629781df9bf0898b641d7a6b"), looks := true }, kinds := [], alts := [], laidByText := true, laidKinds := [.data, .data, .data, .sentinel, .sentinel], laidTests := true, laidLooks := .later }
def VrCalmCardSaid : Prop := Claim7.holds Tryz.pinned (.plain (OpenSpec.ofChange vrCalmSpec)) vrCalmCard

/-- THE SECOND FORM's CARD OF 'tidemarklaw25.VrTwins'. -/
def vrTwinsUptoCard : Claim7 := { stood := { row := vrTwinsUptoRow, standIns := [], harness := (true, "db64db8ce638f1e80b939c2fd26b49b439462f43629781df9bf0898b641d7a6b"), looks := true }, kinds := [], alts := [], laidByText := true, laidKinds := [.data, .data, .data, .sentinel, .sentinel], laidTests := true, laidLooks := .later }
def VrTwinsUptoCardSaid : Prop := Claim7.holds Tryz.pinned (.plain (OpenSpec.upto vrTwinsSpec)) vrTwinsUptoCard

/-- THE SECOND FORM's CARD OF 'tidemarklaw25.VrCalm'. -/
def vrCalmUptoCard : Claim7 := { stood := { row := vrCalmUptoRow, standIns := [], harness := (true, "db64db8ce638f1e80b939c2fd26b49b439462f43629781df9bf0898b641d7a6b"), looks := true }, kinds := [], alts := [], laidByText := true, laidKinds := [.data, .data, .data, .sentinel, .sentinel], laidTests := true, laidLooks := .later }
def VrCalmUptoCardSaid : Prop := Claim7.holds Tryz.pinned (.plain (OpenSpec.upto vrCalmSpec)) vrCalmUptoCard
end Rows
end Go.Proofs.YthdgobcpefcolaaGreatDoor
