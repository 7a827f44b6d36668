/-
  DERIVED. GIVEN WITH THE SEED: THE CARDS: each row of YtnjcjcdmeomegaaGreatDoorRows.lean that lists a variable, with what it lists TIED to the program's text (the seventh form; the later family's looks); each row that meets fmt, with fmt's text TOLD by the authors' own Lean function (tested against real Go, not proved from fmt's source: count such statements apart). THE CARD IS WHAT COUNTS. Prove the row's statement (the work); the ties are given (YtnjcjcdmeomegaaGreatDoorTie.lean); close each card by the builder's one call (the guide's Derived/Test/ToyasCard.lean, 'card_holds'). Laid BY PROGRAM, IN A SANDBOX (cutbox-door.mjs). By AI agents, Wed Nov 11 2026. No macro, syntax, notation, axiom, sorry.
-/
import Derived.Test.YtnjcjcdmeomegaaGreatDoorRows
import GoSem.ClaimSeven
namespace Go.Proofs.YtnjcjcdmeomegaaGreatDoor
namespace Rows

/-- THE TIED CARD OF 'fullinglaw41.CompilerExamples'. -/
def compilerExamplesCard : Claim7 := { stood := { row := compilerExamplesRow, standIns := [], harness := (true, "2e4a9a27d117411924312baba7e47e5ee2b6b86ed143e4beb4f63024bc6ee4d9"), looks := false }, kinds := [], alts := [], laidByText := true, laidKinds := [.data, .data, .data, .data], laidTests := true, laidLooks := .later }
def CompilerExamplesCardSaid : Prop := Claim7.holds Tryz.pinned (.plain (OpenSpec.ofChange compilerExamplesSpec)) compilerExamplesCard

/-- THE SECOND FORM's CARD OF 'fullinglaw41.CompilerExamples'. -/
def compilerExamplesUptoCard : Claim7 := { stood := { row := compilerExamplesUptoRow, standIns := [], harness := (true, "2e4a9a27d117411924312baba7e47e5ee2b6b86ed143e4beb4f63024bc6ee4d9"), looks := false }, kinds := [], alts := [], laidByText := true, laidKinds := [.data, .data, .data, .data], laidTests := true, laidLooks := .later }
def CompilerExamplesUptoCardSaid : Prop := Claim7.holds Tryz.pinned (.plain (OpenSpec.upto compilerExamplesSpec)) compilerExamplesUptoCard
end Rows
end Go.Proofs.YtnjcjcdmeomegaaGreatDoor
