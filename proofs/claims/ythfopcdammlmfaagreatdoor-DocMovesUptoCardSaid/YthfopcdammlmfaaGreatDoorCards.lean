/-
  DERIVED. GIVEN WITH THE SEED: THE CARDS: each row of YthfopcdammlmfaaGreatDoorRows.lean that lists a variable, with what it lists TIED to the program's text (the seventh form; the later family's looks); each row that meets fmt, with fmt's text TOLD by the authors' own Lean function (tested against real Go, not proved from fmt's source: count such statements apart). THE CARD IS WHAT COUNTS. Prove the row's statement (the work); the ties are given (YthfopcdammlmfaaGreatDoorTie.lean); close each card by the builder's one call (the guide's Derived/Test/ToyasCard.lean, 'card_holds'). Laid BY PROGRAM, IN A SANDBOX (cutbox-door.mjs). By AI agents, Wed Nov 11 2026. No macro, syntax, notation, axiom, sorry.
-/
import Derived.Test.YthfopcdammlmfaaGreatDoorRows
import GoSem.ClaimSeven
namespace Go.Proofs.YthfopcdammlmfaaGreatDoor
namespace Rows

/-- THE TIED CARD OF 'tidemarklaw12.DocBuilds'. -/
def docBuildsCard : Claim7 := { stood := { row := docBuildsRow, standIns := [], harness := (true, "f0b41ae5eb42b9187064813feeba6a6a89634eefdc7aedd370fb5891011b4b6a"), looks := false }, kinds := [], alts := [], laidByText := true, laidKinds := [.data, .pinned], laidTests := true, laidLooks := .later }
def DocBuildsCardSaid : Prop := Claim7.holds Tryz.pinned (.plain (OpenSpec.ofChange docBuildsSpec)) docBuildsCard

/-- THE TIED CARD OF 'tidemarklaw12.DocMoves'. -/
def docMovesCard : Claim7 := { stood := { row := docMovesRow, standIns := [], harness := (true, "f0b41ae5eb42b9187064813feeba6a6a89634eefdc7aedd370fb5891011b4b6a"), looks := false }, kinds := [], alts := [], laidByText := true, laidKinds := [.data, .pinned], laidTests := true, laidLooks := .later }
def DocMovesCardSaid : Prop := Claim7.holds Tryz.pinned (.plain (OpenSpec.ofChange docMovesSpec)) docMovesCard

/-- THE TIED CARD OF 'tidemarklaw12.DocAsks'. -/
def docAsksCard : Claim7 := { stood := { row := docAsksRow, standIns := [], harness := (true, "f0b41ae5eb42b9187064813feeba6a6a89634eefdc7aedd370fb5891011b4b6a"), looks := false }, kinds := [], alts := [], laidByText := true, laidKinds := [.data, .pinned], laidTests := true, laidLooks := .later }
def DocAsksCardSaid : Prop := Claim7.holds Tryz.pinned (.plain (OpenSpec.ofChange docAsksSpec)) docAsksCard

/-- THE SECOND FORM's CARD OF 'tidemarklaw12.DocBuilds'. -/
def docBuildsUptoCard : Claim7 := { stood := { row := docBuildsUptoRow, standIns := [], harness := (true, "f0b41ae5eb42b9187064813feeba6a6a89634eefdc7aedd370fb5891011b4b6a"), looks := false }, kinds := [], alts := [], laidByText := true, laidKinds := [.data, .pinned], laidTests := true, laidLooks := .later }
def DocBuildsUptoCardSaid : Prop := Claim7.holds Tryz.pinned (.plain (OpenSpec.upto docBuildsSpec)) docBuildsUptoCard

/-- THE SECOND FORM's CARD OF 'tidemarklaw12.DocMoves'. -/
def docMovesUptoCard : Claim7 := { stood := { row := docMovesUptoRow, standIns := [], harness := (true, "f0b41ae5eb42b9187064813feeba6a6a89634eefdc7aedd370fb5891011b4b6a"), looks := false }, kinds := [], alts := [], laidByText := true, laidKinds := [.data, .pinned], laidTests := true, laidLooks := .later }
def DocMovesUptoCardSaid : Prop := Claim7.holds Tryz.pinned (.plain (OpenSpec.upto docMovesSpec)) docMovesUptoCard

/-- THE SECOND FORM's CARD OF 'tidemarklaw12.DocAsks'. -/
def docAsksUptoCard : Claim7 := { stood := { row := docAsksUptoRow, standIns := [], harness := (true, "f0b41ae5eb42b9187064813feeba6a6a89634eefdc7aedd370fb5891011b4b6a"), looks := false }, kinds := [], alts := [], laidByText := true, laidKinds := [.data, .pinned], laidTests := true, laidLooks := .later }
def DocAsksUptoCardSaid : Prop := Claim7.holds Tryz.pinned (.plain (OpenSpec.upto docAsksSpec)) docAsksUptoCard
end Rows
end Go.Proofs.YthfopcdammlmfaaGreatDoor
