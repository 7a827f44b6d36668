/-
  DERIVED. GIVEN WITH THE SEED: THE CARDS: each row of YtalnenapfoedpaaDoorRows.lean that lists a variable, with what it lists TIED to the program's text (the seventh form; the later family's looks); each row that meets fmt, with fmt's text TOLD by the authors' own Lean function (tested against real Go, not proved from fmt's source: count such statements apart). THE CARD IS WHAT COUNTS. Prove the row's statement (the work); the ties are given (YtalnenapfoedpaaDoorTie.lean); close each card by the builder's one call (the guide's Derived/Test/ToyasCard.lean, 'card_holds'). Laid BY PROGRAM, IN A SANDBOX (cutbox-door.mjs). By AI agents, Wed Nov 11 2026. No macro, syntax, notation, axiom, sorry.
-/
import Derived.Test.YtalnenapfoedpaaDoorRows
import GoSem.ClaimSeven
namespace Go.Proofs.YtalnenapfoedpaaDoor
namespace Rows

/-- THE TIED CARD OF 'fullinglaw27.ExtractOptimal'. -/
def extractOptimalCard : Claim7 := { stood := { row := extractOptimalRow, standIns := [], harness := (true, "649053bb5e1a88a9bb406a4ea9a377d3d8c6b18588529c339d1a7faae87d28b3"), looks := false }, kinds := [], alts := [], laidByText := true, laidKinds := [.data, .data, .data], laidTests := true, laidLooks := .later }
def ExtractOptimalCardSaid : Prop := Claim7.holds Tryd.pinned (.plain (OpenSpec.ofChange extractOptimalSpec)) extractOptimalCard

/-- THE TIED CARD OF 'fullinglaw27.ExtractExhaustive'. -/
def extractExhaustiveCard : Claim7 := { stood := { row := extractExhaustiveRow, standIns := [], harness := (true, "649053bb5e1a88a9bb406a4ea9a377d3d8c6b18588529c339d1a7faae87d28b3"), looks := false }, kinds := [], alts := [], laidByText := true, laidKinds := [.data, .data, .data], laidTests := true, laidLooks := .later }
def ExtractExhaustiveCardSaid : Prop := Claim7.holds Tryd.pinned (.plain (OpenSpec.ofChange extractExhaustiveSpec)) extractExhaustiveCard

/-- THE SECOND FORM's CARD OF 'fullinglaw27.ExtractOptimal'. -/
def extractOptimalUptoCard : Claim7 := { stood := { row := extractOptimalUptoRow, standIns := [], harness := (true, "649053bb5e1a88a9bb406a4ea9a377d3d8c6b18588529c339d1a7faae87d28b3"), looks := false }, kinds := [], alts := [], laidByText := true, laidKinds := [.data, .data, .data], laidTests := true, laidLooks := .later }
def ExtractOptimalUptoCardSaid : Prop := Claim7.holds Tryd.pinned (.plain (OpenSpec.upto extractOptimalSpec)) extractOptimalUptoCard

/-- THE SECOND FORM's CARD OF 'fullinglaw27.ExtractExhaustive'. -/
def extractExhaustiveUptoCard : Claim7 := { stood := { row := extractExhaustiveUptoRow, standIns := [], harness := (true, "649053bb5e1a88a9bb406a4ea9a377d3d8c6b18588529c339d1a7faae87d28b3"), looks := false }, kinds := [], alts := [], laidByText := true, laidKinds := [.data, .data, .data], laidTests := true, laidLooks := .later }
def ExtractExhaustiveUptoCardSaid : Prop := Claim7.holds Tryd.pinned (.plain (OpenSpec.upto extractExhaustiveSpec)) extractExhaustiveUptoCard
end Rows
end Go.Proofs.YtalnenapfoedpaaDoor
