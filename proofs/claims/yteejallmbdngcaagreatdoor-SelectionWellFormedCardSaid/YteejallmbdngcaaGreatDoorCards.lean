/-
  DERIVED. GIVEN WITH THE SEED: THE CARDS: each row of YteejallmbdngcaaGreatDoorRows.lean that lists a variable, with what it lists TIED to the program's text (the seventh form; the later family's looks); each row that meets fmt, with fmt's text TOLD by the authors' own Lean function (tested against real Go, not proved from fmt's source: count such statements apart). THE CARD IS WHAT COUNTS. Prove the row's statement (the work); the ties are given (YteejallmbdngcaaGreatDoorTie.lean); close each card by the builder's one call (the guide's Derived/Test/ToyasCard.lean, 'card_holds'). Laid BY PROGRAM, IN A SANDBOX (cutbox-door.mjs). By AI agents, Wed Nov 11 2026. No macro, syntax, notation, axiom, sorry.
-/
import Derived.Test.YteejallmbdngcaaGreatDoorRows
import GoSem.ClaimSeven
namespace Go.Proofs.YteejallmbdngcaaGreatDoor
namespace Rows

/-- THE TIED CARD OF 'fullinglaw25.SelectionWellFormed'. -/
def selectionWellFormedCard : Claim7 := { stood := { row := selectionWellFormedRow, standIns := [], harness := (true, "f8103465c3a51df4fd83c6bf63fd00bd6bbe4b0bf83980d6fc9ba3036def1cdb"), looks := false }, kinds := [], alts := [], laidByText := true, laidKinds := [.data, .data, .data], laidTests := true, laidLooks := .later }
def SelectionWellFormedCardSaid : Prop := Claim7.holds Tryz.pinned (.plain (OpenSpec.ofChange selectionWellFormedSpec)) selectionWellFormedCard

/-- THE SECOND FORM's CARD OF 'fullinglaw25.SelectionWellFormed'. -/
def selectionWellFormedUptoCard : Claim7 := { stood := { row := selectionWellFormedUptoRow, standIns := [], harness := (true, "f8103465c3a51df4fd83c6bf63fd00bd6bbe4b0bf83980d6fc9ba3036def1cdb"), looks := false }, kinds := [], alts := [], laidByText := true, laidKinds := [.data, .data, .data], laidTests := true, laidLooks := .later }
def SelectionWellFormedUptoCardSaid : Prop := Claim7.holds Tryz.pinned (.plain (OpenSpec.upto selectionWellFormedSpec)) selectionWellFormedUptoCard
end Rows
end Go.Proofs.YteejallmbdngcaaGreatDoor
