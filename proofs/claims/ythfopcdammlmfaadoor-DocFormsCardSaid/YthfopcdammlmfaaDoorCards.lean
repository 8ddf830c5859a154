/-
  DERIVED. GIVEN WITH THE SEED: THE CARDS: each row of YthfopcdammlmfaaDoorRows.lean that lists a variable, with what it lists TIED to the program's text (the seventh form; the later family's looks); each row that meets fmt, with fmt's text TOLD by the authors' own Lean function (tested against real Go, not proved from fmt's source: count such statements apart). THE CARD IS WHAT COUNTS. Prove the row's statement (the work); the ties are given (YthfopcdammlmfaaDoorTie.lean); close each card by the builder's one call (the guide's Derived/Test/ToyasCard.lean, 'card_holds'). Laid BY PROGRAM, IN A SANDBOX (cutbox-door.mjs). By AI agents, Wed Nov 11 2026. No macro, syntax, notation, axiom, sorry.
-/
import Derived.Test.YthfopcdammlmfaaDoorRows
import GoSem.ClaimSeven
namespace Go.Proofs.YthfopcdammlmfaaDoor
namespace Rows

/-- THE TIED CARD OF 'tidemarklaw12.DocKnown'. -/
def docKnownCard : Claim7 := { stood := { row := docKnownRow, standIns := [], harness := (true, "67f9550c757a69a535fe819e937f7ab23553bd1d9cd9702b6792ce3731c581fd"), looks := false }, kinds := [], alts := [], laidByText := true, laidKinds := [.data, .pinned], laidTests := true, laidLooks := .later }
def DocKnownCardSaid : Prop := Claim7.holds Tryd.pinned (.plain (OpenSpec.ofChange docKnownSpec)) docKnownCard

/-- THE TIED CARD OF 'tidemarklaw12.DocApart'. -/
def docApartCard : Claim7 := { stood := { row := docApartRow, standIns := [], harness := (true, "67f9550c757a69a535fe819e937f7ab23553bd1d9cd9702b6792ce3731c581fd"), looks := false }, kinds := [], alts := [], laidByText := true, laidKinds := [.data, .pinned], laidTests := true, laidLooks := .later }
def DocApartCardSaid : Prop := Claim7.holds Tryd.pinned (.plain (OpenSpec.ofChange docApartSpec)) docApartCard

/-- THE TIED CARD OF 'tidemarklaw12.DocForms'. -/
def docFormsCard : Claim7 := { stood := { row := docFormsRow, standIns := [], harness := (true, "67f9550c757a69a535fe819e937f7ab23553bd1d9cd9702b6792ce3731c581fd"), looks := false }, kinds := [], alts := [], laidByText := true, laidKinds := [.data, .pinned], laidTests := true, laidLooks := .later }
def DocFormsCardSaid : Prop := Claim7.holds Tryd.pinned (.plain (OpenSpec.ofChange docFormsSpec)) docFormsCard

/-- THE SECOND FORM's CARD OF 'tidemarklaw12.DocKnown'. -/
def docKnownUptoCard : Claim7 := { stood := { row := docKnownUptoRow, standIns := [], harness := (true, "67f9550c757a69a535fe819e937f7ab23553bd1d9cd9702b6792ce3731c581fd"), looks := false }, kinds := [], alts := [], laidByText := true, laidKinds := [.data, .pinned], laidTests := true, laidLooks := .later }
def DocKnownUptoCardSaid : Prop := Claim7.holds Tryd.pinned (.plain (OpenSpec.upto docKnownSpec)) docKnownUptoCard

/-- THE SECOND FORM's CARD OF 'tidemarklaw12.DocApart'. -/
def docApartUptoCard : Claim7 := { stood := { row := docApartUptoRow, standIns := [], harness := (true, "67f9550c757a69a535fe819e937f7ab23553bd1d9cd9702b6792ce3731c581fd"), looks := false }, kinds := [], alts := [], laidByText := true, laidKinds := [.data, .pinned], laidTests := true, laidLooks := .later }
def DocApartUptoCardSaid : Prop := Claim7.holds Tryd.pinned (.plain (OpenSpec.upto docApartSpec)) docApartUptoCard

/-- THE SECOND FORM's CARD OF 'tidemarklaw12.DocForms'. -/
def docFormsUptoCard : Claim7 := { stood := { row := docFormsUptoRow, standIns := [], harness := (true, "67f9550c757a69a535fe819e937f7ab23553bd1d9cd9702b6792ce3731c581fd"), looks := false }, kinds := [], alts := [], laidByText := true, laidKinds := [.data, .pinned], laidTests := true, laidLooks := .later }
def DocFormsUptoCardSaid : Prop := Claim7.holds Tryd.pinned (.plain (OpenSpec.upto docFormsSpec)) docFormsUptoCard
end Rows
end Go.Proofs.YthfopcdammlmfaaDoor
