/-
  DERIVED. GIVEN WITH THE SEED: THE CARDS: each row of YtalnenapfoedpabGreatDoorRows.lean that lists a variable, with what it lists TIED to the program's text (the seventh form; the later family's looks); each row that meets fmt, with fmt's text TOLD by the authors' own Lean function (tested against real Go, not proved from fmt's source: count such statements apart). THE CARD IS WHAT COUNTS. Prove the row's statement (the work); the ties are given (YtalnenapfoedpabGreatDoorTie.lean); close each card by the builder's one call (the guide's Derived/Test/ToyasCard.lean, 'card_holds'). Laid BY PROGRAM, IN A SANDBOX (cutbox-door.mjs). By AI agents, Wed Nov 11 2026. No macro, syntax, notation, axiom, sorry.
-/
import Derived.Test.YtalnenapfoedpabGreatDoorRows
import GoSem.ClaimSeven
namespace Go.Proofs.YtalnenapfoedpabGreatDoor
namespace Rows

/-- THE TIED CARD OF 'fullinglaw28.ExtractCheckSound'. -/
def extractCheckSoundCard : Claim7 := { stood := { row := extractCheckSoundRow, standIns := [], harness := (true, "653b728a465be00dfd81a2b6fc5b06c08d566112f3c97d993537f9fadc46a1a2"), looks := false }, kinds := [], alts := [], laidByText := true, laidKinds := [.data, .data, .data], laidTests := true, laidLooks := .later }
def ExtractCheckSoundCardSaid : Prop := Claim7.holds Tryz.pinned (.plain (OpenSpec.ofChange extractCheckSoundSpec)) extractCheckSoundCard

/-- THE SECOND FORM's CARD OF 'fullinglaw28.ExtractCheckSound'. -/
def extractCheckSoundUptoCard : Claim7 := { stood := { row := extractCheckSoundUptoRow, standIns := [], harness := (true, "653b728a465be00dfd81a2b6fc5b06c08d566112f3c97d993537f9fadc46a1a2"), looks := false }, kinds := [], alts := [], laidByText := true, laidKinds := [.data, .data, .data], laidTests := true, laidLooks := .later }
def ExtractCheckSoundUptoCardSaid : Prop := Claim7.holds Tryz.pinned (.plain (OpenSpec.upto extractCheckSoundSpec)) extractCheckSoundUptoCard
end Rows
end Go.Proofs.YtalnenapfoedpabGreatDoor
