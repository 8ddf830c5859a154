/-
  DERIVED. GIVEN WITH THE SEED: THE CARDS: each row of YthbjaiilnkakcaaGreatDoorRows.lean that lists a variable, with what it lists TIED to the program's text (the seventh form; the later family's looks); each row that meets fmt, with fmt's text TOLD by the authors' own Lean function (tested against real Go, not proved from fmt's source: count such statements apart). THE CARD IS WHAT COUNTS. Prove the row's statement (the work); the ties are given (YthbjaiilnkakcaaGreatDoorTie.lean); close each card by the builder's one call (the guide's Derived/Test/ToyasCard.lean, 'card_holds'). Laid BY PROGRAM, IN A SANDBOX (cutbox-door.mjs). By AI agents, Wed Nov 11 2026. No macro, syntax, notation, axiom, sorry.
-/
import Derived.Test.YthbjaiilnkakcaaGreatDoorRows
import GoSem.ClaimSeven
namespace Go.Proofs.YthbjaiilnkakcaaGreatDoor
namespace Rows

/-- THE TIED CARD OF 'tidemarklaw25.VrGroups'. -/
def vrGroupsCard : Claim7 := { stood := { row := vrGroupsRow, standIns := [], harness := (true, "0813e31582f8a1fd4a383c1c3a2b1d45574afaf3a1940d44535de052f9e4322f"), looks := true }, kinds := [], alts := [], laidByText := true, laidKinds := [.data, .data, .data, .sentinel, .sentinel], laidTests := true, laidLooks := .later }
def VrGroupsCardSaid : Prop := Claim7.holds Tryz.pinned (.plain (OpenSpec.ofChange vrGroupsSpec)) vrGroupsCard

/-- THE TIED CARD OF 'tidemarklaw25.VrKeeps'. -/
def vrKeepsCard : Claim7 := { stood := { row := vrKeepsRow, standIns := [], harness := (true, "0813e31582f8a1fd4a383c1c3a2b1d45574afaf3a1940d44535de052f9e4322f"), looks := true }, kinds := [], alts := [], laidByText := true, laidKinds := [.data, .data, .data, .sentinel, .sentinel], laidTests := true, laidLooks := .later }
def VrKeepsCardSaid : Prop := Claim7.holds Tryz.pinned (.plain (OpenSpec.ofChange vrKeepsSpec)) vrKeepsCard

/-- THE TIED CARD OF 'tidemarklaw25.VrTwins'. -/
def vrTwinsCard : Claim7 := { stood := { row := vrTwinsRow, standIns := [], harness := (true, "0813e31582f8a1fd4a383c1c3a2b1d45574afaf3a1940d44535de052f9e4322f"), looks := true }, kinds := [], alts := [], laidByText := true, laidKinds := [.data, .data, .data, .sentinel, .sentinel], laidTests := true, laidLooks := .later }
def VrTwinsCardSaid : Prop := Claim7.holds Tryz.pinned (.plain (OpenSpec.ofChange vrTwinsSpec)) vrTwinsCard

/-- THE SECOND FORM's CARD OF 'tidemarklaw25.VrGroups'. -/
def vrGroupsUptoCard : Claim7 := { stood := { row := vrGroupsUptoRow, standIns := [], harness := (true, "0813e31582f8a1fd4a383c1c3a2b1d45574afaf3a1940d44535de052f9e4322f"), looks := true }, kinds := [], alts := [], laidByText := true, laidKinds := [.data, .data, .data, .sentinel, .sentinel], laidTests := true, laidLooks := .later }
def VrGroupsUptoCardSaid : Prop := Claim7.holds Tryz.pinned (.plain (OpenSpec.upto vrGroupsSpec)) vrGroupsUptoCard

/-- THE SECOND FORM's CARD OF 'tidemarklaw25.VrKeeps'. -/
def vrKeepsUptoCard : Claim7 := { stood := { row := vrKeepsUptoRow, standIns := [], harness := (true, "0813e31582f8a1fd4a383c1c3a2b1d45574afaf3a1940d44535de052f9e4322f"), looks := true }, kinds := [], alts := [], laidByText := true, laidKinds := [.data, .data, .data, .sentinel, .sentinel], laidTests := true, laidLooks := .later }
def VrKeepsUptoCardSaid : Prop := Claim7.holds Tryz.pinned (.plain (OpenSpec.upto vrKeepsSpec)) vrKeepsUptoCard

/-- THE SECOND FORM's CARD OF 'tidemarklaw25.VrTwins'. -/
def vrTwinsUptoCard : Claim7 := { stood := { row := vrTwinsUptoRow, standIns := [], harness := (true, "0813e31582f8a1fd4a383c1c3a2b1d45574afaf3a1940d44535de052f9e4322f"), looks := true }, kinds := [], alts := [], laidByText := true, laidKinds := [.data, .data, .data, .sentinel, .sentinel], laidTests := true, laidLooks := .later }
def VrTwinsUptoCardSaid : Prop := Claim7.holds Tryz.pinned (.plain (OpenSpec.upto vrTwinsSpec)) vrTwinsUptoCard
end Rows
end Go.Proofs.YthbjaiilnkakcaaGreatDoor
