/-
  DERIVED. GIVEN WITH THE SEED: THE CARDS: each row of YtmdhcpambdaigaaDoorRows.lean that lists a variable, with what it lists TIED to the program's text (the seventh form; the later family's looks); each row that meets fmt, with fmt's text TOLD by the authors' own Lean function (tested against real Go, not proved from fmt's source: count such statements apart). THE CARD IS WHAT COUNTS. Prove the row's statement (the work); the ties are given (YtmdhcpambdaigaaDoorTie.lean); close each card by the builder's one call (the guide's Derived/Test/ToyasCard.lean, 'card_holds'). Laid BY PROGRAM, IN A SANDBOX (cutbox-door.mjs). By AI agents, Wed Nov 11 2026. No macro, syntax, notation, axiom, sorry.
-/
import Derived.Test.YtmdhcpambdaigaaDoorRows
import GoSem.ClaimSeven
namespace Go.Proofs.YtmdhcpambdaigaaDoor
namespace Rows

/-- THE TIED CARD OF 'fullinglaw26.BoundExamples'. -/
def boundExamplesCard : Claim7 := { stood := { row := boundExamplesRow, standIns := [], harness := (true, "616bf2684e64d536d24341ec7d604d2a6d8efaa02de61651770bd76c2bb119f6"), looks := false }, kinds := [], alts := [], laidByText := true, laidKinds := [.data, .data, .data], laidTests := true, laidLooks := .later }
def BoundExamplesCardSaid : Prop := Claim7.holds Tryd.pinned (.plain (OpenSpec.ofChange boundExamplesSpec)) boundExamplesCard

/-- THE TIED CARD OF 'fullinglaw25.SelectionExamples'. -/
def selectionExamplesCard : Claim7 := { stood := { row := selectionExamplesRow, standIns := [], harness := (true, "616bf2684e64d536d24341ec7d604d2a6d8efaa02de61651770bd76c2bb119f6"), looks := false }, kinds := [], alts := [], laidByText := true, laidKinds := [.data, .data, .data], laidTests := true, laidLooks := .later }
def SelectionExamplesCardSaid : Prop := Claim7.holds Tryd.pinned (.plain (OpenSpec.ofChange selectionExamplesSpec)) selectionExamplesCard

/-- THE TIED CARD OF 'fullinglaw27.ExtractExamples'. -/
def extractExamplesCard : Claim7 := { stood := { row := extractExamplesRow, standIns := [], harness := (true, "616bf2684e64d536d24341ec7d604d2a6d8efaa02de61651770bd76c2bb119f6"), looks := false }, kinds := [], alts := [], laidByText := true, laidKinds := [.data, .data, .data], laidTests := true, laidLooks := .later }
def ExtractExamplesCardSaid : Prop := Claim7.holds Tryd.pinned (.plain (OpenSpec.ofChange extractExamplesSpec)) extractExamplesCard

/-- THE TIED CARD OF 'fullinglaw28.ExtractCheckExamples'. -/
def extractCheckExamplesCard : Claim7 := { stood := { row := extractCheckExamplesRow, standIns := [], harness := (true, "616bf2684e64d536d24341ec7d604d2a6d8efaa02de61651770bd76c2bb119f6"), looks := false }, kinds := [], alts := [], laidByText := true, laidKinds := [.data, .data, .data], laidTests := true, laidLooks := .later }
def ExtractCheckExamplesCardSaid : Prop := Claim7.holds Tryd.pinned (.plain (OpenSpec.ofChange extractCheckExamplesSpec)) extractCheckExamplesCard

/-- THE TIED CARD OF 'fullinglaw39.SymExecExamples'. -/
def symExecExamplesCard : Claim7 := { stood := { row := symExecExamplesRow, standIns := [], harness := (true, "616bf2684e64d536d24341ec7d604d2a6d8efaa02de61651770bd76c2bb119f6"), looks := false }, kinds := [], alts := [], laidByText := true, laidKinds := [.data, .data, .data, .data], laidTests := true, laidLooks := .later }
def SymExecExamplesCardSaid : Prop := Claim7.holds Tryd.pinned (.plain (OpenSpec.ofChange symExecExamplesSpec)) symExecExamplesCard

/-- THE SECOND FORM's CARD OF 'fullinglaw26.BoundExamples'. -/
def boundExamplesUptoCard : Claim7 := { stood := { row := boundExamplesUptoRow, standIns := [], harness := (true, "616bf2684e64d536d24341ec7d604d2a6d8efaa02de61651770bd76c2bb119f6"), looks := false }, kinds := [], alts := [], laidByText := true, laidKinds := [.data, .data, .data], laidTests := true, laidLooks := .later }
def BoundExamplesUptoCardSaid : Prop := Claim7.holds Tryd.pinned (.plain (OpenSpec.upto boundExamplesSpec)) boundExamplesUptoCard

/-- THE SECOND FORM's CARD OF 'fullinglaw25.SelectionExamples'. -/
def selectionExamplesUptoCard : Claim7 := { stood := { row := selectionExamplesUptoRow, standIns := [], harness := (true, "616bf2684e64d536d24341ec7d604d2a6d8efaa02de61651770bd76c2bb119f6"), looks := false }, kinds := [], alts := [], laidByText := true, laidKinds := [.data, .data, .data], laidTests := true, laidLooks := .later }
def SelectionExamplesUptoCardSaid : Prop := Claim7.holds Tryd.pinned (.plain (OpenSpec.upto selectionExamplesSpec)) selectionExamplesUptoCard

/-- THE SECOND FORM's CARD OF 'fullinglaw27.ExtractExamples'. -/
def extractExamplesUptoCard : Claim7 := { stood := { row := extractExamplesUptoRow, standIns := [], harness := (true, "616bf2684e64d536d24341ec7d604d2a6d8efaa02de61651770bd76c2bb119f6"), looks := false }, kinds := [], alts := [], laidByText := true, laidKinds := [.data, .data, .data], laidTests := true, laidLooks := .later }
def ExtractExamplesUptoCardSaid : Prop := Claim7.holds Tryd.pinned (.plain (OpenSpec.upto extractExamplesSpec)) extractExamplesUptoCard

/-- THE SECOND FORM's CARD OF 'fullinglaw28.ExtractCheckExamples'. -/
def extractCheckExamplesUptoCard : Claim7 := { stood := { row := extractCheckExamplesUptoRow, standIns := [], harness := (true, "616bf2684e64d536d24341ec7d604d2a6d8efaa02de61651770bd76c2bb119f6"), looks := false }, kinds := [], alts := [], laidByText := true, laidKinds := [.data, .data, .data], laidTests := true, laidLooks := .later }
def ExtractCheckExamplesUptoCardSaid : Prop := Claim7.holds Tryd.pinned (.plain (OpenSpec.upto extractCheckExamplesSpec)) extractCheckExamplesUptoCard

/-- THE SECOND FORM's CARD OF 'fullinglaw39.SymExecExamples'. -/
def symExecExamplesUptoCard : Claim7 := { stood := { row := symExecExamplesUptoRow, standIns := [], harness := (true, "616bf2684e64d536d24341ec7d604d2a6d8efaa02de61651770bd76c2bb119f6"), looks := false }, kinds := [], alts := [], laidByText := true, laidKinds := [.data, .data, .data, .data], laidTests := true, laidLooks := .later }
def SymExecExamplesUptoCardSaid : Prop := Claim7.holds Tryd.pinned (.plain (OpenSpec.upto symExecExamplesSpec)) symExecExamplesUptoCard
end Rows
end Go.Proofs.YtmdhcpambdaigaaDoor
