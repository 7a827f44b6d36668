/-
  DERIVED. GIVEN WITH THE SEED: THE CARDS: each row of YtjkdpgkpghcfbaaGreatDoorRows.lean that lists a variable, with what it lists TIED to the program's text (the seventh form; the later family's looks); each row that meets fmt, with fmt's text TOLD by the authors' own Lean function (tested against real Go, not proved from fmt's source: count such statements apart). THE CARD IS WHAT COUNTS. Prove the row's statement (the work); the ties are given (YtjkdpgkpghcfbaaGreatDoorTie.lean); close each card by the builder's one call (the guide's Derived/Test/ToyasCard.lean, 'card_holds'). Laid BY PROGRAM, IN A SANDBOX (cutbox-door.mjs). By AI agents, Wed Nov 11 2026. No macro, syntax, notation, axiom, sorry.
-/
import Derived.Test.YtjkdpgkpghcfbaaGreatDoorRows
import GoSem.ClaimSeven
namespace Go.Proofs.YtjkdpgkpghcfbaaGreatDoor
namespace Rows

/-- THE TIED CARD OF 'fullinglaw42.ScriptExamples'. -/
def scriptExamplesCard : Claim7 := { stood := { row := scriptExamplesRow, standIns := [], harness := (true, "5b1f2e84a07993ebfe24e23f53cc9ec4ddee1c1e8df5f085933410e300f92152"), looks := false }, kinds := [], alts := [], laidByText := true, laidKinds := [.pinned, .data, .data, .data, .data, .data], laidTests := true, laidLooks := .later }
def ScriptExamplesCardSaid : Prop := Claim7.holds Tryz.pinned (.plain (OpenSpec.ofChange scriptExamplesSpec)) scriptExamplesCard

/-- THE SECOND FORM's CARD OF 'fullinglaw42.ScriptExamples'. -/
def scriptExamplesUptoCard : Claim7 := { stood := { row := scriptExamplesUptoRow, standIns := [], harness := (true, "5b1f2e84a07993ebfe24e23f53cc9ec4ddee1c1e8df5f085933410e300f92152"), looks := false }, kinds := [], alts := [], laidByText := true, laidKinds := [.pinned, .data, .data, .data, .data, .data], laidTests := true, laidLooks := .later }
def ScriptExamplesUptoCardSaid : Prop := Claim7.holds Tryz.pinned (.plain (OpenSpec.upto scriptExamplesSpec)) scriptExamplesUptoCard
end Rows
end Go.Proofs.YtjkdpgkpghcfbaaGreatDoor
