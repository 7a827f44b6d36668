/-
  DERIVED. GIVEN WITH THE SEED: THE CARDS: each row of YtalnenapfoedpaaGreatDoorRows.lean that lists a variable, with what it lists TIED to the program's text (the seventh form; the later family's looks); each row that meets fmt, with fmt's text TOLD by the authors' own Lean function (tested against real Go, not proved from fmt's source: count such statements apart). THE CARD IS WHAT COUNTS. Prove the row's statement (the work); the ties are given (YtalnenapfoedpaaGreatDoorTie.lean); close each card by the builder's one call (the guide's Derived/Test/ToyasCard.lean, 'card_holds'). Laid BY PROGRAM, IN A SANDBOX (cutbox-door.mjs). By AI agents, Wed Nov 11 2026. No macro, syntax, notation, axiom, sorry.
-/
import Derived.Test.YtalnenapfoedpaaGreatDoorRows
import GoSem.ClaimSeven
namespace Go.Proofs.YtalnenapfoedpaaGreatDoor
namespace Rows

/-- THE TIED CARD OF 'fullinglaw25.SelectionBuilds'. -/
def selectionBuildsCard : Claim7 := { stood := { row := selectionBuildsRow, standIns := [], harness := (true, "6fee62e4702dc62e69483b4092b732ae8046a3355f6a302c25888cf83bfffae5"), looks := false }, kinds := [], alts := [], laidByText := true, laidKinds := [.data, .data, .data], laidTests := true, laidLooks := .later }
def SelectionBuildsCardSaid : Prop := Claim7.holds Tryz.pinned (.plain (OpenSpec.ofChange selectionBuildsSpec)) selectionBuildsCard

/-- THE TIED CARD OF 'fullinglaw27.ExtractMatches'. -/
def extractMatchesCard : Claim7 := { stood := { row := extractMatchesRow, standIns := [], harness := (true, "6fee62e4702dc62e69483b4092b732ae8046a3355f6a302c25888cf83bfffae5"), looks := false }, kinds := [], alts := [], laidByText := true, laidKinds := [.data, .data, .data], laidTests := true, laidLooks := .later }
def ExtractMatchesCardSaid : Prop := Claim7.holds Tryz.pinned (.plain (OpenSpec.ofChange extractMatchesSpec)) extractMatchesCard

/-- THE TIED CARD OF 'fullinglaw28.ExtractCheckMatches'. -/
def extractCheckMatchesCard : Claim7 := { stood := { row := extractCheckMatchesRow, standIns := [], harness := (true, "6fee62e4702dc62e69483b4092b732ae8046a3355f6a302c25888cf83bfffae5"), looks := false }, kinds := [], alts := [], laidByText := true, laidKinds := [.data, .data, .data], laidTests := true, laidLooks := .later }
def ExtractCheckMatchesCardSaid : Prop := Claim7.holds Tryz.pinned (.plain (OpenSpec.ofChange extractCheckMatchesSpec)) extractCheckMatchesCard

/-- THE TIED CARD OF 'fullinglaw28.ExtractCheckAccepts'. -/
def extractCheckAcceptsCard : Claim7 := { stood := { row := extractCheckAcceptsRow, standIns := [], harness := (true, "6fee62e4702dc62e69483b4092b732ae8046a3355f6a302c25888cf83bfffae5"), looks := false }, kinds := [], alts := [], laidByText := true, laidKinds := [.data, .data, .data], laidTests := true, laidLooks := .later }
def ExtractCheckAcceptsCardSaid : Prop := Claim7.holds Tryz.pinned (.plain (OpenSpec.ofChange extractCheckAcceptsSpec)) extractCheckAcceptsCard

/-- THE SECOND FORM's CARD OF 'fullinglaw25.SelectionBuilds'. -/
def selectionBuildsUptoCard : Claim7 := { stood := { row := selectionBuildsUptoRow, standIns := [], harness := (true, "6fee62e4702dc62e69483b4092b732ae8046a3355f6a302c25888cf83bfffae5"), looks := false }, kinds := [], alts := [], laidByText := true, laidKinds := [.data, .data, .data], laidTests := true, laidLooks := .later }
def SelectionBuildsUptoCardSaid : Prop := Claim7.holds Tryz.pinned (.plain (OpenSpec.upto selectionBuildsSpec)) selectionBuildsUptoCard

/-- THE SECOND FORM's CARD OF 'fullinglaw27.ExtractMatches'. -/
def extractMatchesUptoCard : Claim7 := { stood := { row := extractMatchesUptoRow, standIns := [], harness := (true, "6fee62e4702dc62e69483b4092b732ae8046a3355f6a302c25888cf83bfffae5"), looks := false }, kinds := [], alts := [], laidByText := true, laidKinds := [.data, .data, .data], laidTests := true, laidLooks := .later }
def ExtractMatchesUptoCardSaid : Prop := Claim7.holds Tryz.pinned (.plain (OpenSpec.upto extractMatchesSpec)) extractMatchesUptoCard

/-- THE SECOND FORM's CARD OF 'fullinglaw28.ExtractCheckMatches'. -/
def extractCheckMatchesUptoCard : Claim7 := { stood := { row := extractCheckMatchesUptoRow, standIns := [], harness := (true, "6fee62e4702dc62e69483b4092b732ae8046a3355f6a302c25888cf83bfffae5"), looks := false }, kinds := [], alts := [], laidByText := true, laidKinds := [.data, .data, .data], laidTests := true, laidLooks := .later }
def ExtractCheckMatchesUptoCardSaid : Prop := Claim7.holds Tryz.pinned (.plain (OpenSpec.upto extractCheckMatchesSpec)) extractCheckMatchesUptoCard

/-- THE SECOND FORM's CARD OF 'fullinglaw28.ExtractCheckAccepts'. -/
def extractCheckAcceptsUptoCard : Claim7 := { stood := { row := extractCheckAcceptsUptoRow, standIns := [], harness := (true, "6fee62e4702dc62e69483b4092b732ae8046a3355f6a302c25888cf83bfffae5"), looks := false }, kinds := [], alts := [], laidByText := true, laidKinds := [.data, .data, .data], laidTests := true, laidLooks := .later }
def ExtractCheckAcceptsUptoCardSaid : Prop := Claim7.holds Tryz.pinned (.plain (OpenSpec.upto extractCheckAcceptsSpec)) extractCheckAcceptsUptoCard
end Rows
end Go.Proofs.YtalnenapfoedpaaGreatDoor
