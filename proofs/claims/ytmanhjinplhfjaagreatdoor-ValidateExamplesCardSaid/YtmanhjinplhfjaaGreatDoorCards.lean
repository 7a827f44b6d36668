/-
  DERIVED. GIVEN WITH THE SEED: THE CARDS: each row of YtmanhjinplhfjaaGreatDoorRows.lean that lists a variable, with what it lists TIED to the program's text (the seventh form; the later family's looks); each row that meets fmt, with fmt's text TOLD by the authors' own Lean function (tested against real Go, not proved from fmt's source: count such statements apart). THE CARD IS WHAT COUNTS. Prove the row's statement (the work); the ties are given (YtmanhjinplhfjaaGreatDoorTie.lean); close each card by the builder's one call (the guide's Derived/Test/ToyasCard.lean, 'card_holds'). Laid BY PROGRAM, IN A SANDBOX (cutbox-door.mjs). By AI agents, Wed Nov 11 2026. No macro, syntax, notation, axiom, sorry.
-/
import Derived.Test.YtmanhjinplhfjaaGreatDoorRows
import GoSem.ClaimSeven
namespace Go.Proofs.YtmanhjinplhfjaaGreatDoor
namespace Rows

/-- THE TIED CARD OF 'fullinglaw40.ValidateExamples'. -/
def validateExamplesCard : Claim7 := { stood := { row := validateExamplesRow, standIns := [], harness := (true, "4dd2b870b107b92f53d695151580867ac930a6e75390ea6d697c547949f5299e"), looks := false }, kinds := [], alts := [], laidByText := true, laidKinds := [.data, .data, .data, .data], laidTests := true, laidLooks := .later }
def ValidateExamplesCardSaid : Prop := Claim7.holds Tryz.pinned (.plain (OpenSpec.ofChange validateExamplesSpec)) validateExamplesCard

/-- THE SECOND FORM's CARD OF 'fullinglaw40.ValidateExamples'. -/
def validateExamplesUptoCard : Claim7 := { stood := { row := validateExamplesUptoRow, standIns := [], harness := (true, "4dd2b870b107b92f53d695151580867ac930a6e75390ea6d697c547949f5299e"), looks := false }, kinds := [], alts := [], laidByText := true, laidKinds := [.data, .data, .data, .data], laidTests := true, laidLooks := .later }
def ValidateExamplesUptoCardSaid : Prop := Claim7.holds Tryz.pinned (.plain (OpenSpec.upto validateExamplesSpec)) validateExamplesUptoCard
end Rows
end Go.Proofs.YtmanhjinplhfjaaGreatDoor
