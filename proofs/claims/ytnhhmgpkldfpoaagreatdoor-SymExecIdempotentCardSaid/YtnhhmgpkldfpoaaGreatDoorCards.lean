/-
  DERIVED. GIVEN WITH THE SEED: THE CARDS: each row of YtnhhmgpkldfpoaaGreatDoorRows.lean that lists a variable, with what it lists TIED to the program's text (the seventh form; the later family's looks); each row that meets fmt, with fmt's text TOLD by the authors' own Lean function (tested against real Go, not proved from fmt's source: count such statements apart). THE CARD IS WHAT COUNTS. Prove the row's statement (the work); the ties are given (YtnhhmgpkldfpoaaGreatDoorTie.lean); close each card by the builder's one call (the guide's Derived/Test/ToyasCard.lean, 'card_holds'). Laid BY PROGRAM, IN A SANDBOX (cutbox-door.mjs). By AI agents, Wed Nov 11 2026. No macro, syntax, notation, axiom, sorry.
-/
import Derived.Test.YtnhhmgpkldfpoaaGreatDoorRows
import GoSem.ClaimSeven
namespace Go.Proofs.YtnhhmgpkldfpoaaGreatDoor
namespace Rows

/-- THE TIED CARD OF 'fullinglaw39.SymExecNormalize'. -/
def symExecNormalizeCard : Claim7 := { stood := { row := symExecNormalizeRow, standIns := [], harness := (true, "1d81a431784d51510042fbc2841fde0611f4ec48df6e07702a54193654b39b98"), looks := false }, kinds := [], alts := [], laidByText := true, laidKinds := [.data, .data, .data, .data], laidTests := true, laidLooks := .later }
def SymExecNormalizeCardSaid : Prop := Claim7.holds Tryz.pinned (.plain (OpenSpec.ofChange symExecNormalizeSpec)) symExecNormalizeCard

/-- THE TIED CARD OF 'fullinglaw39.SymExecIdempotent'. -/
def symExecIdempotentCard : Claim7 := { stood := { row := symExecIdempotentRow, standIns := [], harness := (true, "1d81a431784d51510042fbc2841fde0611f4ec48df6e07702a54193654b39b98"), looks := false }, kinds := [], alts := [], laidByText := true, laidKinds := [.data, .data, .data, .data], laidTests := true, laidLooks := .later }
def SymExecIdempotentCardSaid : Prop := Claim7.holds Tryz.pinned (.plain (OpenSpec.ofChange symExecIdempotentSpec)) symExecIdempotentCard

/-- THE SECOND FORM's CARD OF 'fullinglaw39.SymExecNormalize'. -/
def symExecNormalizeUptoCard : Claim7 := { stood := { row := symExecNormalizeUptoRow, standIns := [], harness := (true, "1d81a431784d51510042fbc2841fde0611f4ec48df6e07702a54193654b39b98"), looks := false }, kinds := [], alts := [], laidByText := true, laidKinds := [.data, .data, .data, .data], laidTests := true, laidLooks := .later }
def SymExecNormalizeUptoCardSaid : Prop := Claim7.holds Tryz.pinned (.plain (OpenSpec.upto symExecNormalizeSpec)) symExecNormalizeUptoCard

/-- THE SECOND FORM's CARD OF 'fullinglaw39.SymExecIdempotent'. -/
def symExecIdempotentUptoCard : Claim7 := { stood := { row := symExecIdempotentUptoRow, standIns := [], harness := (true, "1d81a431784d51510042fbc2841fde0611f4ec48df6e07702a54193654b39b98"), looks := false }, kinds := [], alts := [], laidByText := true, laidKinds := [.data, .data, .data, .data], laidTests := true, laidLooks := .later }
def SymExecIdempotentUptoCardSaid : Prop := Claim7.holds Tryz.pinned (.plain (OpenSpec.upto symExecIdempotentSpec)) symExecIdempotentUptoCard
end Rows
end Go.Proofs.YtnhhmgpkldfpoaaGreatDoor
