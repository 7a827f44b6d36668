/-
  No cell of these rows narrows 'for every input' (looked for: loops, veiled, ifaces, maps, wideKeys, modest, calm, conditions, laid).
  DERIVED. THE GIVEN ROWS OF THIS SEAT. 4 by the template 'for every input the law returns true; each argument reads behind the call as it read before'; 0 by the template 'total and deterministic' (their statements: YtffkjnaocflmdaaTotals.lean).
  GIVEN WITH THE SEED: the statements are not yours to turn. If you find one false, say at which input.
  Laid BY PROGRAM, IN A SANDBOX (cutbox-rows.mjs): the forced cells as the released guide's own fill.sh prints them over the translation e33c8a16a10508d1… (all of the seat's roots in one cut). By AI agents, Wed Nov 11 2026. No macro, syntax, notation, axiom, sorry.
-/
import Derived.Test.YtffkjnaocflmdaaChecked
import GoSem.Claim
import GoSem.ClaimJoined
import GoSem.ClaimMapViews
import Derived.JoinedTies
import Derived.KernelRfl
namespace Go.Proofs.Ytffkjnaocflmdaa
/- THE CELL 'sum', in the pinned program and in every row, IS THE sha256 OF THE DUMP (.gsa) THAT YtffkjnaocflmdaaProg.lean LOADS. Nothing in Lean hashes anything: it is a label: what it is worth is what the hold of that sum in a sandbox is worth. -/
noncomputable def Try.pinned : Pinned := { name := "ytffkjnaocflmdaa", sum := "e33c8a16a10508d1142b0c585ecb584f32f1cfe0ed4024e34655a98b5af043e1", checked := Try.checked }
namespace Rows
def none {H : Type} : Left H := { results := [], args := [] }

/-- 'fullinglaw22.ExplainExamples': WHATEVER THE INPUT: true; the input reads as it did. -/
def explainExamplesSpec : ChangeSpec := { name := "explainExamples", fn := fun _ => fun
  | [] => { results := [.lit (.bool true)], args := [] }
  | _ => none }
def explainExamplesRow : OpenClaim := { program := "ytffkjnaocflmdaa", sum := "e33c8a16a10508d1142b0c585ecb584f32f1cfe0ed4024e34655a98b5af043e1", func := "fulling/fullinglaw22.ExplainExamples", spec := "explainExamples", unfollowed := true, recurses := true, apart := false }
def ExplainExamplesSaid : Prop := explainExamplesRow.holds Try.pinned (OpenSpec.ofChange explainExamplesSpec)

/-- ITS FALSE NEIGHBOUR: 'it returns false'. Refute it at one input. -/
def explainExamplesWrong : ChangeSpec := { name := "explainExamples", fn := fun _ => fun
  | [] => { results := [.lit (.bool false)], args := [] }
  | _ => none }
def ExplainExamplesWrongFalsely : Prop := explainExamplesRow.holds Try.pinned (OpenSpec.ofChange explainExamplesWrong)

/-- 'fullinglaw22.ExplainPaths': WHATEVER THE INPUT: true; the input reads as it did. -/
def explainPathsSpec : ChangeSpec := { name := "explainPaths", fn := fun _ => fun
  | [d1, d2, d3, d4, d5, d6, d7, d8] => { results := [.lit (.bool true)], args := [d1, d2, d3, d4, d5, d6, d7, d8] }
  | _ => none }
def explainPathsRow : OpenClaim := { program := "ytffkjnaocflmdaa", sum := "e33c8a16a10508d1142b0c585ecb584f32f1cfe0ed4024e34655a98b5af043e1", func := "fulling/fullinglaw22.ExplainPaths", spec := "explainPaths", unfollowed := true, recurses := true, apart := false }
def ExplainPathsSaid : Prop := explainPathsRow.holds Try.pinned (OpenSpec.ofChange explainPathsSpec)

/-- ITS FALSE NEIGHBOUR: 'it returns false'. Refute it at one input. -/
def explainPathsWrong : ChangeSpec := { name := "explainPaths", fn := fun _ => fun
  | [d1, d2, d3, d4, d5, d6, d7, d8] => { results := [.lit (.bool false)], args := [d1, d2, d3, d4, d5, d6, d7, d8] }
  | _ => none }
def ExplainPathsWrongFalsely : Prop := explainPathsRow.holds Try.pinned (OpenSpec.ofChange explainPathsWrong)

/-- 'fullinglaw22.ExplainShortest': WHATEVER THE INPUT: true; the input reads as it did. -/
def explainShortestSpec : ChangeSpec := { name := "explainShortest", fn := fun _ => fun
  | [d1, d2, d3, d4, d5, d6, d7] => { results := [.lit (.bool true)], args := [d1, d2, d3, d4, d5, d6, d7] }
  | _ => none }
def explainShortestRow : OpenClaim := { program := "ytffkjnaocflmdaa", sum := "e33c8a16a10508d1142b0c585ecb584f32f1cfe0ed4024e34655a98b5af043e1", func := "fulling/fullinglaw22.ExplainShortest", spec := "explainShortest", unfollowed := true, recurses := true, apart := false }
def ExplainShortestSaid : Prop := explainShortestRow.holds Try.pinned (OpenSpec.ofChange explainShortestSpec)

/-- ITS FALSE NEIGHBOUR: 'it returns false'. Refute it at one input. -/
def explainShortestWrong : ChangeSpec := { name := "explainShortest", fn := fun _ => fun
  | [d1, d2, d3, d4, d5, d6, d7] => { results := [.lit (.bool false)], args := [d1, d2, d3, d4, d5, d6, d7] }
  | _ => none }
def ExplainShortestWrongFalsely : Prop := explainShortestRow.holds Try.pinned (OpenSpec.ofChange explainShortestWrong)

/-- 'fullinglaw22.ExplainProves': WHATEVER THE INPUT: true; the input reads as it did. -/
def explainProvesSpec : ChangeSpec := { name := "explainProves", fn := fun _ => fun
  | [d1, d2, d3, d4, d5, d6, d7] => { results := [.lit (.bool true)], args := [d1, d2, d3, d4, d5, d6, d7] }
  | _ => none }
def explainProvesRow : OpenClaim := { program := "ytffkjnaocflmdaa", sum := "e33c8a16a10508d1142b0c585ecb584f32f1cfe0ed4024e34655a98b5af043e1", func := "fulling/fullinglaw22.ExplainProves", spec := "explainProves", unfollowed := true, recurses := true, apart := false }
def ExplainProvesSaid : Prop := explainProvesRow.holds Try.pinned (OpenSpec.ofChange explainProvesSpec)

/-- ITS FALSE NEIGHBOUR: 'it returns false'. Refute it at one input. -/
def explainProvesWrong : ChangeSpec := { name := "explainProves", fn := fun _ => fun
  | [d1, d2, d3, d4, d5, d6, d7] => { results := [.lit (.bool false)], args := [d1, d2, d3, d4, d5, d6, d7] }
  | _ => none }
def ExplainProvesWrongFalsely : Prop := explainProvesRow.holds Try.pinned (OpenSpec.ofChange explainProvesWrong)

/- THE SECOND FORM. 'bulk': how many values and letters a reading holds, each counted each time it is reached (what is shared counts as often as it is met; a slice's spare places count too). A statement '..UptoSaid' is the law's where the arguments, and the package variables that the reading takes, are together of bulk at most 1048576: NARROWER than '..Said'. Prove '..Said' where nothing that the law and all that it calls make is longer than what came in: it says more and counts as full. Else prove '..UptoSaid'. A law counts once. -/
mutual
def uptoBulk {H : Type} : DataW H → Nat
  | .lit (.string bytes) => bytes.length + 1
  | .lit _ => 1
  | .nil => 1
  | .ptr d => uptoBulk d + 1
  | .slice elems spare => uptoBulkAll elems + uptoBulkAll spare + 1
  | .agg parts => uptoBulkAll parts + 1
  | .iface _ d => uptoBulk d + 1
  | .map entries => uptoBulkEntries entries + 1
  | .held _ => 1
def uptoBulkAll {H : Type} : List (DataW H) → Nat
  | [] => 0
  | d :: r => uptoBulk d + uptoBulkAll r
def uptoBulkEntries {H : Type} : List (Lit × DataW H) → Nat
  | [] => 0
  | x :: r => uptoBulkEntry x + uptoBulkEntries r
def uptoBulkEntry {H : Type} : Lit × DataW H → Nat
  | (.string bytes, d) => bytes.length + uptoBulk d + 1
  | (_, d) => uptoBulk d + 1
 end
def uptoSmall : (H : Type) → List (DataW H) → Bool := fun _ ds => decide (uptoBulkAll ds ≤ 1048576)
def OpenSpec.upto (s : _root_.Go.ChangeSpec) : _root_.Go.OpenSpec := { _root_.Go.OpenSpec.ofChange s with cond := some uptoSmall }

/-- 'fullinglaw22.ExplainExamples', WHERE WHAT IT READS IS OF BULK AT MOST 1048576: true; the input reads as it did. -/
def explainExamplesUptoRow : OpenClaim := { program := "ytffkjnaocflmdaa", sum := "e33c8a16a10508d1142b0c585ecb584f32f1cfe0ed4024e34655a98b5af043e1", func := "fulling/fullinglaw22.ExplainExamples", spec := "explainExamples", unfollowed := true, recurses := true, apart := false, narrowed := true }
def ExplainExamplesUptoSaid : Prop := explainExamplesUptoRow.holds Try.pinned (OpenSpec.upto explainExamplesSpec)

/-- 'fullinglaw22.ExplainPaths', WHERE WHAT IT READS IS OF BULK AT MOST 1048576: true; the input reads as it did. -/
def explainPathsUptoRow : OpenClaim := { program := "ytffkjnaocflmdaa", sum := "e33c8a16a10508d1142b0c585ecb584f32f1cfe0ed4024e34655a98b5af043e1", func := "fulling/fullinglaw22.ExplainPaths", spec := "explainPaths", unfollowed := true, recurses := true, apart := false, narrowed := true }
def ExplainPathsUptoSaid : Prop := explainPathsUptoRow.holds Try.pinned (OpenSpec.upto explainPathsSpec)

/-- 'fullinglaw22.ExplainShortest', WHERE WHAT IT READS IS OF BULK AT MOST 1048576: true; the input reads as it did. -/
def explainShortestUptoRow : OpenClaim := { program := "ytffkjnaocflmdaa", sum := "e33c8a16a10508d1142b0c585ecb584f32f1cfe0ed4024e34655a98b5af043e1", func := "fulling/fullinglaw22.ExplainShortest", spec := "explainShortest", unfollowed := true, recurses := true, apart := false, narrowed := true }
def ExplainShortestUptoSaid : Prop := explainShortestUptoRow.holds Try.pinned (OpenSpec.upto explainShortestSpec)

/-- 'fullinglaw22.ExplainProves', WHERE WHAT IT READS IS OF BULK AT MOST 1048576: true; the input reads as it did. -/
def explainProvesUptoRow : OpenClaim := { program := "ytffkjnaocflmdaa", sum := "e33c8a16a10508d1142b0c585ecb584f32f1cfe0ed4024e34655a98b5af043e1", func := "fulling/fullinglaw22.ExplainProves", spec := "explainProves", unfollowed := true, recurses := true, apart := false, narrowed := true }
def ExplainProvesUptoSaid : Prop := explainProvesUptoRow.holds Try.pinned (OpenSpec.upto explainProvesSpec)

end Rows
end Go.Proofs.Ytffkjnaocflmdaa
