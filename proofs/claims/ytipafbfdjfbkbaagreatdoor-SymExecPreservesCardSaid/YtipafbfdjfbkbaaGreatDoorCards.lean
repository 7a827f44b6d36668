/-
  DERIVED. GIVEN WITH THE SEED: THE CARDS: each row of YtipafbfdjfbkbaaGreatDoorRows.lean that lists a variable, with what it lists TIED to the program's text (the seventh form; the later family's looks); each row that meets fmt, with fmt's text TOLD by the authors' own Lean function (tested against real Go, not proved from fmt's source: count such statements apart). THE CARD IS WHAT COUNTS. Prove the row's statement (the work); the ties are given (YtipafbfdjfbkbaaGreatDoorTie.lean); close each card by the builder's one call (the guide's Derived/Test/ToyasCard.lean, 'card_holds'). Laid BY PROGRAM, IN A SANDBOX (cutbox-door.mjs). By AI agents, Wed Nov 11 2026. No macro, syntax, notation, axiom, sorry.
-/
import Derived.Test.YtipafbfdjfbkbaaGreatDoorRows
import GoSem.ClaimSeven
namespace Go.Proofs.YtipafbfdjfbkbaaGreatDoor
namespace Rows

/-- THE TIED CARD OF 'fullinglaw39.SymExecPreserves'. -/
def symExecPreservesCard : Claim7 := { stood := { row := symExecPreservesRow, standIns := [], harness := (true, "9530ec56ed5bd9e641ffc753fad885cd1b802aa41c0696311883515451c0a2a9"), looks := false }, kinds := [], alts := [], laidByText := true, laidKinds := [.data, .data, .data, .data], laidTests := true, laidLooks := .later }
def SymExecPreservesCardSaid : Prop := Claim7.holds Tryz.pinned (.plain (OpenSpec.ofChange symExecPreservesSpec)) symExecPreservesCard

/-- THE SECOND FORM's CARD OF 'fullinglaw39.SymExecPreserves'. -/
def symExecPreservesUptoCard : Claim7 := { stood := { row := symExecPreservesUptoRow, standIns := [], harness := (true, "9530ec56ed5bd9e641ffc753fad885cd1b802aa41c0696311883515451c0a2a9"), looks := false }, kinds := [], alts := [], laidByText := true, laidKinds := [.data, .data, .data, .data], laidTests := true, laidLooks := .later }
def SymExecPreservesUptoCardSaid : Prop := Claim7.holds Tryz.pinned (.plain (OpenSpec.upto symExecPreservesSpec)) symExecPreservesUptoCard
end Rows
end Go.Proofs.YtipafbfdjfbkbaaGreatDoor
