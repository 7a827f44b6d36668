/-
  DERIVED. GIVEN WITH THE SEED: THE CARDS: each row of YthbmchbhbpnojaaDoorRows.lean that lists a variable, with what it lists TIED to the program's text (the seventh form; the later family's looks); each row that meets fmt, with fmt's text TOLD by the authors' own Lean function (tested against real Go, not proved from fmt's source: count such statements apart). THE CARD IS WHAT COUNTS. Prove the row's statement (the work); the ties are given (YthbmchbhbpnojaaDoorTie.lean); close each card by the builder's one call (the guide's Derived/Test/ToyasCard.lean, 'card_holds'). Laid BY PROGRAM, IN A SANDBOX (cutbox-door.mjs). By AI agents, Wed Nov 11 2026. No macro, syntax, notation, axiom, sorry.
-/
import Derived.Test.YthbmchbhbpnojaaDoorRows
import GoSem.ClaimSeven
namespace Go.Proofs.YthbmchbhbpnojaaDoor
namespace Rows

/-- THE TIED CARD OF 'fullinglaw25.SelectionClasses'. -/
def selectionClassesCard : Claim7 := { stood := { row := selectionClassesRow, standIns := [], harness := (true, "dcdff5060063cdb6665e20c0d4c6b60e6889c4a07902be82aac3951210611e89"), looks := false }, kinds := [], alts := [], laidByText := true, laidKinds := [.data, .data, .data], laidTests := true, laidLooks := .later }
def SelectionClassesCardSaid : Prop := Claim7.holds Tryd.pinned (.plain (OpenSpec.ofChange selectionClassesSpec)) selectionClassesCard

/-- THE TIED CARD OF 'fullinglaw25.SelectionLeast'. -/
def selectionLeastCard : Claim7 := { stood := { row := selectionLeastRow, standIns := [], harness := (true, "dcdff5060063cdb6665e20c0d4c6b60e6889c4a07902be82aac3951210611e89"), looks := false }, kinds := [], alts := [], laidByText := true, laidKinds := [.data, .data, .data], laidTests := true, laidLooks := .later }
def SelectionLeastCardSaid : Prop := Claim7.holds Tryd.pinned (.plain (OpenSpec.ofChange selectionLeastSpec)) selectionLeastCard

/-- THE TIED CARD OF 'fullinglaw26.BoundMatches'. -/
def boundMatchesCard : Claim7 := { stood := { row := boundMatchesRow, standIns := [], harness := (true, "dcdff5060063cdb6665e20c0d4c6b60e6889c4a07902be82aac3951210611e89"), looks := false }, kinds := [], alts := [], laidByText := true, laidKinds := [.data, .data, .data], laidTests := true, laidLooks := .later }
def BoundMatchesCardSaid : Prop := Claim7.holds Tryd.pinned (.plain (OpenSpec.ofChange boundMatchesSpec)) boundMatchesCard

/-- THE TIED CARD OF 'fullinglaw26.BoundAdmissible'. -/
def boundAdmissibleCard : Claim7 := { stood := { row := boundAdmissibleRow, standIns := [], harness := (true, "dcdff5060063cdb6665e20c0d4c6b60e6889c4a07902be82aac3951210611e89"), looks := false }, kinds := [], alts := [], laidByText := true, laidKinds := [.data, .data, .data], laidTests := true, laidLooks := .later }
def BoundAdmissibleCardSaid : Prop := Claim7.holds Tryd.pinned (.plain (OpenSpec.ofChange boundAdmissibleSpec)) boundAdmissibleCard

/-- THE TIED CARD OF 'fullinglaw26.BoundMonotone'. -/
def boundMonotoneCard : Claim7 := { stood := { row := boundMonotoneRow, standIns := [], harness := (true, "dcdff5060063cdb6665e20c0d4c6b60e6889c4a07902be82aac3951210611e89"), looks := false }, kinds := [], alts := [], laidByText := true, laidKinds := [.data, .data, .data], laidTests := true, laidLooks := .later }
def BoundMonotoneCardSaid : Prop := Claim7.holds Tryd.pinned (.plain (OpenSpec.ofChange boundMonotoneSpec)) boundMonotoneCard

/-- THE SECOND FORM's CARD OF 'fullinglaw25.SelectionClasses'. -/
def selectionClassesUptoCard : Claim7 := { stood := { row := selectionClassesUptoRow, standIns := [], harness := (true, "dcdff5060063cdb6665e20c0d4c6b60e6889c4a07902be82aac3951210611e89"), looks := false }, kinds := [], alts := [], laidByText := true, laidKinds := [.data, .data, .data], laidTests := true, laidLooks := .later }
def SelectionClassesUptoCardSaid : Prop := Claim7.holds Tryd.pinned (.plain (OpenSpec.upto selectionClassesSpec)) selectionClassesUptoCard

/-- THE SECOND FORM's CARD OF 'fullinglaw25.SelectionLeast'. -/
def selectionLeastUptoCard : Claim7 := { stood := { row := selectionLeastUptoRow, standIns := [], harness := (true, "dcdff5060063cdb6665e20c0d4c6b60e6889c4a07902be82aac3951210611e89"), looks := false }, kinds := [], alts := [], laidByText := true, laidKinds := [.data, .data, .data], laidTests := true, laidLooks := .later }
def SelectionLeastUptoCardSaid : Prop := Claim7.holds Tryd.pinned (.plain (OpenSpec.upto selectionLeastSpec)) selectionLeastUptoCard

/-- THE SECOND FORM's CARD OF 'fullinglaw26.BoundMatches'. -/
def boundMatchesUptoCard : Claim7 := { stood := { row := boundMatchesUptoRow, standIns := [], harness := (true, "dcdff5060063cdb6665e20c0d4c6b60e6889c4a07902be82aac3951210611e89"), looks := false }, kinds := [], alts := [], laidByText := true, laidKinds := [.data, .data, .data], laidTests := true, laidLooks := .later }
def BoundMatchesUptoCardSaid : Prop := Claim7.holds Tryd.pinned (.plain (OpenSpec.upto boundMatchesSpec)) boundMatchesUptoCard

/-- THE SECOND FORM's CARD OF 'fullinglaw26.BoundAdmissible'. -/
def boundAdmissibleUptoCard : Claim7 := { stood := { row := boundAdmissibleUptoRow, standIns := [], harness := (true, "dcdff5060063cdb6665e20c0d4c6b60e6889c4a07902be82aac3951210611e89"), looks := false }, kinds := [], alts := [], laidByText := true, laidKinds := [.data, .data, .data], laidTests := true, laidLooks := .later }
def BoundAdmissibleUptoCardSaid : Prop := Claim7.holds Tryd.pinned (.plain (OpenSpec.upto boundAdmissibleSpec)) boundAdmissibleUptoCard

/-- THE SECOND FORM's CARD OF 'fullinglaw26.BoundMonotone'. -/
def boundMonotoneUptoCard : Claim7 := { stood := { row := boundMonotoneUptoRow, standIns := [], harness := (true, "dcdff5060063cdb6665e20c0d4c6b60e6889c4a07902be82aac3951210611e89"), looks := false }, kinds := [], alts := [], laidByText := true, laidKinds := [.data, .data, .data], laidTests := true, laidLooks := .later }
def BoundMonotoneUptoCardSaid : Prop := Claim7.holds Tryd.pinned (.plain (OpenSpec.upto boundMonotoneSpec)) boundMonotoneUptoCard
end Rows
end Go.Proofs.YthbmchbhbpnojaaDoor
