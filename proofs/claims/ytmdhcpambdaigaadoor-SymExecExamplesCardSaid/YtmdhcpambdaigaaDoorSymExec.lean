/-
  SymExecExamples returns true, whatever the world and the tape: the engine's run of it, computed by the kernel, ends in true; what it reads of the listed variables is theirs. The row's statement and its card. No conditions.
-/
import Derived.Test.YtmdhcpambdaigaaDoorCards
import Derived.Test.YtmdhcpambdaigaaDoorTie
import Derived.Test.YtmdhcpambdaigaaDoorEngLaid
import Derived.ProofKit
import Derived.OpenShut
import Derived.KernelRfl
import Derived.Deep.DeepWitnessRowRef
namespace Go.Proofs.YtmdhcpambdaigaaDoor.symExecExamples
open Go.ChangeShapes Go.WideShapes Go.ChangeAt Go.RowKit

theorem own : ownKnob Tryd.prog.godebug = none := by kernel_rfl

/-- what the variable fulling/machine.table points at -/
def tab0 : Eng.AV := .fp [.fs [.str ⟨#[110, 111, 112]⟩, .int .i64 1, .bool false, .bool false, .bool false, .bool false, .int .i64 1, .str ⟨#[114, 101, 116]⟩, .int .i64 1, .bool false, .bool false, .bool false, .bool false, .int .i64 1, .str ⟨#[116, 105, 99, 107]⟩, .int .i64 1, .bool false, .bool false, .bool false, .bool false, .int .i64 1, .str ⟨#[116, 114, 97, 112]⟩, .int .i64 8, .bool false, .bool false, .bool false, .bool true, .int .i64 1, .str ⟨#[106, 109, 112]⟩, .int .i64 8, .bool false, .bool false, .bool false, .bool false, .int .i64 1, .str ⟨#[99, 97, 108, 108]⟩, .int .i64 5, .bool false, .bool false, .bool false, .bool false, .int .i64 1, .str ⟨#[106, 122]⟩, .int .i64 5, .bool true, .bool false, .bool false, .bool false, .int .i64 1, .str ⟨#[106, 110, 122]⟩, .int .i64 5, .bool true, .bool false, .bool false, .bool false, .int .i64 1, .str ⟨#[111, 117, 116]⟩, .int .i64 2, .bool true, .bool false, .bool false, .bool false, .int .i64 1, .str ⟨#[109, 111, 118]⟩, .int .i64 3, .bool false, .bool true, .bool true, .bool false, .int .i64 1, .str ⟨#[99, 109, 111, 118, 122]⟩, .int .i64 4, .bool true, .bool true, .bool true, .bool false, .int .i64 1, .str ⟨#[99, 109, 111, 118, 110, 122]⟩, .int .i64 4, .bool true, .bool true, .bool true, .bool false, .int .i64 1, .str ⟨#[108, 100, 105]⟩, .int .i64 5, .bool false, .bool true, .bool false, .bool false, .int .i64 1, .str ⟨#[108, 100, 99]⟩, .int .i64 6, .bool false, .bool true, .bool false, .bool false, .int .i64 3, .str ⟨#[110, 101, 103]⟩, .int .i64 2, .bool true, .bool true, .bool false, .bool false, .int .i64 1, .str ⟨#[110, 111, 116]⟩, .int .i64 2, .bool true, .bool true, .bool false, .bool false, .int .i64 1, .str ⟨#[97, 100, 100]⟩, .int .i64 3, .bool true, .bool true, .bool true, .bool false, .int .i64 1, .str ⟨#[115, 117, 98]⟩, .int .i64 3, .bool true, .bool true, .bool true, .bool false, .int .i64 1, .str ⟨#[109, 117, 108]⟩, .int .i64 3, .bool true, .bool true, .bool true, .bool false, .int .i64 1, .str ⟨#[100, 105, 118]⟩, .int .i64 3, .bool true, .bool true, .bool true, .bool true, .int .i64 1, .str ⟨#[114, 101, 109]⟩, .int .i64 3, .bool true, .bool true, .bool true, .bool true, .int .i64 1, .str ⟨#[97, 110, 100]⟩, .int .i64 3, .bool true, .bool true, .bool true, .bool false, .int .i64 1, .str ⟨#[111, 114]⟩, .int .i64 3, .bool true, .bool true, .bool true, .bool false, .int .i64 1, .str ⟨#[120, 111, 114]⟩, .int .i64 3, .bool true, .bool true, .bool true, .bool false, .int .i64 1, .str ⟨#[115, 104, 108]⟩, .int .i64 3, .bool true, .bool true, .bool true, .bool false, .int .i64 1, .str ⟨#[115, 104, 114]⟩, .int .i64 3, .bool true, .bool true, .bool true, .bool false, .int .i64 1, .str ⟨#[115, 97, 114]⟩, .int .i64 3, .bool true, .bool true, .bool true, .bool false, .int .i64 1, .str ⟨#[101, 113]⟩, .int .i64 3, .bool true, .bool true, .bool true, .bool false, .int .i64 1, .str ⟨#[110, 101]⟩, .int .i64 3, .bool true, .bool true, .bool true, .bool false, .int .i64 1, .str ⟨#[108, 116]⟩, .int .i64 3, .bool true, .bool true, .bool true, .bool false, .int .i64 1, .str ⟨#[108, 101]⟩, .int .i64 3, .bool true, .bool true, .bool true, .bool false, .int .i64 1, .str ⟨#[108, 116, 117]⟩, .int .i64 3, .bool true, .bool true, .bool true, .bool false, .int .i64 1, .str ⟨#[97, 100, 100, 105]⟩, .int .i64 5, .bool true, .bool true, .bool false, .bool false, .int .i64 1, .str ⟨#[108, 100]⟩, .int .i64 7, .bool false, .bool true, .bool true, .bool true, .int .i64 1, .str ⟨#[115, 116]⟩, .int .i64 7, .bool true, .bool false, .bool true, .bool true, .int .i64 1, .str ⟨#[108, 100, 115]⟩, .int .i64 5, .bool false, .bool true, .bool false, .bool false, .int .i64 1, .str ⟨#[115, 116, 115]⟩, .int .i64 5, .bool true, .bool false, .bool false, .bool false, .int .i64 1] 37]
instance gl : Eng.Gl := ⟨fun g => bif g.beq 0 then some tab0 else none⟩

theorem noNum : Eng.NoNum Tryd.prog := Eng.noNum_of (by kernel_rfl)

theorem mixed : Tryd.prog.follows .mixedOrders = true := Tryd.checked.mixed

theorem computed : Eng.isT (Eng.callN Tryd.prog (Eng.run (fun _ => false) Eng.planOf Tryd.prog 100000) 7 [] ⟨.lf, 0⟩) = true := by kernel_rfl

theorem conv0 : Eng.conv Tryd.prog 4 190 Rows.laid_fulling_machine_table = some (match tab0 with | .fp xs => xs | _ => []) := by kernel_rfl
def laidAt (w : World) (h : laidMetH Tryd.prog Rows.symExecExamplesRow.laid w) : Eng.Laid w :=
  Eng.laid_of fun g v hg => by
    have h : laidMet Tryd.prog Rows.symExecExamplesRow.laid w := h
    obtain ⟨ps, hps, _⟩ := h
    by_cases e : g = 0
    · subst e
      have hv : v = tab0 := (Option.some.inj hg).symm
      subst hv
      exact Eng.laid_vars hps "fulling/machine.table" _ (by simp [Rows.symExecExamplesRow]) 0 190 (by kernel_rfl) (by kernel_rfl) 4 _ conv0
    · have hg' : (bif g.beq 0 then some tab0 else none) = some v := hg
      rw [Eng.nbeq_false e] at hg'
      cases hg'

theorem walk (w : World) (h : laidMetH Tryd.prog Rows.symExecExamplesRow.laid w) : Calls Tryd.prog 7 #[] w fun e w' => e = .returned (.bool true) ∧ Below w.heap.size w w' :=
  Eng.closed_law mixed noNum 100000 7 computed w (laidAt w h)

/-- A world for the witness: the settled one, each listed table holding what its initialiser lays. -/
noncomputable def laidWorld (os : Os) : World :=
  { World.holding Tryd.prog os ⟨#[.cells #[.string ⟨#[110, 111, 112]⟩, .int .i64 1, .bool false, .bool false, .bool false, .bool false, .int .i64 1, .string ⟨#[114, 101, 116]⟩, .int .i64 1, .bool false, .bool false, .bool false, .bool false, .int .i64 1, .string ⟨#[116, 105, 99, 107]⟩, .int .i64 1, .bool false, .bool false, .bool false, .bool false, .int .i64 1, .string ⟨#[116, 114, 97, 112]⟩, .int .i64 8, .bool false, .bool false, .bool false, .bool true, .int .i64 1, .string ⟨#[106, 109, 112]⟩, .int .i64 8, .bool false, .bool false, .bool false, .bool false, .int .i64 1, .string ⟨#[99, 97, 108, 108]⟩, .int .i64 5, .bool false, .bool false, .bool false, .bool false, .int .i64 1, .string ⟨#[106, 122]⟩, .int .i64 5, .bool true, .bool false, .bool false, .bool false, .int .i64 1, .string ⟨#[106, 110, 122]⟩, .int .i64 5, .bool true, .bool false, .bool false, .bool false, .int .i64 1, .string ⟨#[111, 117, 116]⟩, .int .i64 2, .bool true, .bool false, .bool false, .bool false, .int .i64 1, .string ⟨#[109, 111, 118]⟩, .int .i64 3, .bool false, .bool true, .bool true, .bool false, .int .i64 1, .string ⟨#[99, 109, 111, 118, 122]⟩, .int .i64 4, .bool true, .bool true, .bool true, .bool false, .int .i64 1, .string ⟨#[99, 109, 111, 118, 110, 122]⟩, .int .i64 4, .bool true, .bool true, .bool true, .bool false, .int .i64 1, .string ⟨#[108, 100, 105]⟩, .int .i64 5, .bool false, .bool true, .bool false, .bool false, .int .i64 1, .string ⟨#[108, 100, 99]⟩, .int .i64 6, .bool false, .bool true, .bool false, .bool false, .int .i64 3, .string ⟨#[110, 101, 103]⟩, .int .i64 2, .bool true, .bool true, .bool false, .bool false, .int .i64 1, .string ⟨#[110, 111, 116]⟩, .int .i64 2, .bool true, .bool true, .bool false, .bool false, .int .i64 1, .string ⟨#[97, 100, 100]⟩, .int .i64 3, .bool true, .bool true, .bool true, .bool false, .int .i64 1, .string ⟨#[115, 117, 98]⟩, .int .i64 3, .bool true, .bool true, .bool true, .bool false, .int .i64 1, .string ⟨#[109, 117, 108]⟩, .int .i64 3, .bool true, .bool true, .bool true, .bool false, .int .i64 1, .string ⟨#[100, 105, 118]⟩, .int .i64 3, .bool true, .bool true, .bool true, .bool true, .int .i64 1, .string ⟨#[114, 101, 109]⟩, .int .i64 3, .bool true, .bool true, .bool true, .bool true, .int .i64 1, .string ⟨#[97, 110, 100]⟩, .int .i64 3, .bool true, .bool true, .bool true, .bool false, .int .i64 1, .string ⟨#[111, 114]⟩, .int .i64 3, .bool true, .bool true, .bool true, .bool false, .int .i64 1, .string ⟨#[120, 111, 114]⟩, .int .i64 3, .bool true, .bool true, .bool true, .bool false, .int .i64 1, .string ⟨#[115, 104, 108]⟩, .int .i64 3, .bool true, .bool true, .bool true, .bool false, .int .i64 1, .string ⟨#[115, 104, 114]⟩, .int .i64 3, .bool true, .bool true, .bool true, .bool false, .int .i64 1, .string ⟨#[115, 97, 114]⟩, .int .i64 3, .bool true, .bool true, .bool true, .bool false, .int .i64 1, .string ⟨#[101, 113]⟩, .int .i64 3, .bool true, .bool true, .bool true, .bool false, .int .i64 1, .string ⟨#[110, 101]⟩, .int .i64 3, .bool true, .bool true, .bool true, .bool false, .int .i64 1, .string ⟨#[108, 116]⟩, .int .i64 3, .bool true, .bool true, .bool true, .bool false, .int .i64 1, .string ⟨#[108, 101]⟩, .int .i64 3, .bool true, .bool true, .bool true, .bool false, .int .i64 1, .string ⟨#[108, 116, 117]⟩, .int .i64 3, .bool true, .bool true, .bool true, .bool false, .int .i64 1, .string ⟨#[97, 100, 100, 105]⟩, .int .i64 5, .bool true, .bool true, .bool false, .bool false, .int .i64 1, .string ⟨#[108, 100]⟩, .int .i64 7, .bool false, .bool true, .bool true, .bool true, .int .i64 1, .string ⟨#[115, 116]⟩, .int .i64 7, .bool true, .bool false, .bool true, .bool true, .int .i64 1, .string ⟨#[108, 100, 115]⟩, .int .i64 5, .bool false, .bool true, .bool false, .bool false, .int .i64 1, .string ⟨#[115, 116, 115]⟩, .int .i64 5, .bool true, .bool false, .bool false, .bool false, .int .i64 1] 172 (0, 0)], #[], []⟩ with heap := (((((World.holding Tryd.prog os ⟨#[.cells #[.string ⟨#[110, 111, 112]⟩, .int .i64 1, .bool false, .bool false, .bool false, .bool false, .int .i64 1, .string ⟨#[114, 101, 116]⟩, .int .i64 1, .bool false, .bool false, .bool false, .bool false, .int .i64 1, .string ⟨#[116, 105, 99, 107]⟩, .int .i64 1, .bool false, .bool false, .bool false, .bool false, .int .i64 1, .string ⟨#[116, 114, 97, 112]⟩, .int .i64 8, .bool false, .bool false, .bool false, .bool true, .int .i64 1, .string ⟨#[106, 109, 112]⟩, .int .i64 8, .bool false, .bool false, .bool false, .bool false, .int .i64 1, .string ⟨#[99, 97, 108, 108]⟩, .int .i64 5, .bool false, .bool false, .bool false, .bool false, .int .i64 1, .string ⟨#[106, 122]⟩, .int .i64 5, .bool true, .bool false, .bool false, .bool false, .int .i64 1, .string ⟨#[106, 110, 122]⟩, .int .i64 5, .bool true, .bool false, .bool false, .bool false, .int .i64 1, .string ⟨#[111, 117, 116]⟩, .int .i64 2, .bool true, .bool false, .bool false, .bool false, .int .i64 1, .string ⟨#[109, 111, 118]⟩, .int .i64 3, .bool false, .bool true, .bool true, .bool false, .int .i64 1, .string ⟨#[99, 109, 111, 118, 122]⟩, .int .i64 4, .bool true, .bool true, .bool true, .bool false, .int .i64 1, .string ⟨#[99, 109, 111, 118, 110, 122]⟩, .int .i64 4, .bool true, .bool true, .bool true, .bool false, .int .i64 1, .string ⟨#[108, 100, 105]⟩, .int .i64 5, .bool false, .bool true, .bool false, .bool false, .int .i64 1, .string ⟨#[108, 100, 99]⟩, .int .i64 6, .bool false, .bool true, .bool false, .bool false, .int .i64 3, .string ⟨#[110, 101, 103]⟩, .int .i64 2, .bool true, .bool true, .bool false, .bool false, .int .i64 1, .string ⟨#[110, 111, 116]⟩, .int .i64 2, .bool true, .bool true, .bool false, .bool false, .int .i64 1, .string ⟨#[97, 100, 100]⟩, .int .i64 3, .bool true, .bool true, .bool true, .bool false, .int .i64 1, .string ⟨#[115, 117, 98]⟩, .int .i64 3, .bool true, .bool true, .bool true, .bool false, .int .i64 1, .string ⟨#[109, 117, 108]⟩, .int .i64 3, .bool true, .bool true, .bool true, .bool false, .int .i64 1, .string ⟨#[100, 105, 118]⟩, .int .i64 3, .bool true, .bool true, .bool true, .bool true, .int .i64 1, .string ⟨#[114, 101, 109]⟩, .int .i64 3, .bool true, .bool true, .bool true, .bool true, .int .i64 1, .string ⟨#[97, 110, 100]⟩, .int .i64 3, .bool true, .bool true, .bool true, .bool false, .int .i64 1, .string ⟨#[111, 114]⟩, .int .i64 3, .bool true, .bool true, .bool true, .bool false, .int .i64 1, .string ⟨#[120, 111, 114]⟩, .int .i64 3, .bool true, .bool true, .bool true, .bool false, .int .i64 1, .string ⟨#[115, 104, 108]⟩, .int .i64 3, .bool true, .bool true, .bool true, .bool false, .int .i64 1, .string ⟨#[115, 104, 114]⟩, .int .i64 3, .bool true, .bool true, .bool true, .bool false, .int .i64 1, .string ⟨#[115, 97, 114]⟩, .int .i64 3, .bool true, .bool true, .bool true, .bool false, .int .i64 1, .string ⟨#[101, 113]⟩, .int .i64 3, .bool true, .bool true, .bool true, .bool false, .int .i64 1, .string ⟨#[110, 101]⟩, .int .i64 3, .bool true, .bool true, .bool true, .bool false, .int .i64 1, .string ⟨#[108, 116]⟩, .int .i64 3, .bool true, .bool true, .bool true, .bool false, .int .i64 1, .string ⟨#[108, 101]⟩, .int .i64 3, .bool true, .bool true, .bool true, .bool false, .int .i64 1, .string ⟨#[108, 116, 117]⟩, .int .i64 3, .bool true, .bool true, .bool true, .bool false, .int .i64 1, .string ⟨#[97, 100, 100, 105]⟩, .int .i64 5, .bool true, .bool true, .bool false, .bool false, .int .i64 1, .string ⟨#[108, 100]⟩, .int .i64 7, .bool false, .bool true, .bool true, .bool true, .int .i64 1, .string ⟨#[115, 116]⟩, .int .i64 7, .bool true, .bool false, .bool true, .bool true, .int .i64 1, .string ⟨#[108, 100, 115]⟩, .int .i64 5, .bool false, .bool true, .bool false, .bool false, .int .i64 1, .string ⟨#[115, 116, 115]⟩, .int .i64 5, .bool true, .bool false, .bool false, .bool false, .int .i64 1] 172 (0, 0)], #[], []⟩).heap.modify 0 fun
      | .cells _ t frozen => .cells #[.slice (some ⟨(World.settled Tryd.prog os).heap.size + 0, 0, none⟩) 37 37] t frozen
      | o => o).modify 2 fun
      | .cells _ t frozen => .cells #[.int .u8 0, .int .u8 1, .int .u8 28, .int .u8 2, .int .u8 29, .int .u8 14, .int .u8 24, .int .u8 3, .int .u8 30, .int .u8 22, .int .u8 20, .int .u8 15, .int .u8 25, .int .u8 17, .int .u8 4, .int .u8 8, .int .u8 31, .int .u8 27, .int .u8 13, .int .u8 23, .int .u8 21, .int .u8 19, .int .u8 16, .int .u8 7, .int .u8 26, .int .u8 12, .int .u8 18, .int .u8 6, .int .u8 11, .int .u8 5, .int .u8 10, .int .u8 9] t frozen
      | o => o).modify 3 fun
      | .cells _ t frozen => .cells #[.int .u8 0, .int .u8 1, .int .u8 56, .int .u8 2, .int .u8 57, .int .u8 49, .int .u8 28, .int .u8 3, .int .u8 61, .int .u8 58, .int .u8 42, .int .u8 50, .int .u8 38, .int .u8 29, .int .u8 17, .int .u8 4, .int .u8 62, .int .u8 47, .int .u8 59, .int .u8 36, .int .u8 45, .int .u8 43, .int .u8 51, .int .u8 22, .int .u8 53, .int .u8 39, .int .u8 33, .int .u8 30, .int .u8 24, .int .u8 18, .int .u8 12, .int .u8 5, .int .u8 63, .int .u8 55, .int .u8 48, .int .u8 27, .int .u8 60, .int .u8 41, .int .u8 37, .int .u8 16, .int .u8 46, .int .u8 35, .int .u8 44, .int .u8 21, .int .u8 52, .int .u8 32, .int .u8 23, .int .u8 11, .int .u8 54, .int .u8 26, .int .u8 40, .int .u8 15, .int .u8 34, .int .u8 20, .int .u8 31, .int .u8 10, .int .u8 25, .int .u8 14, .int .u8 19, .int .u8 9, .int .u8 13, .int .u8 8, .int .u8 7, .int .u8 6] t frozen
      | o => o).modify 1 fun
      | .cells _ t frozen => .cells #[.int .u64 1, .int .u64 10, .int .u64 100, .int .u64 1000, .int .u64 10000, .int .u64 100000, .int .u64 1000000, .int .u64 10000000, .int .u64 100000000, .int .u64 1000000000, .int .u64 10000000000, .int .u64 100000000000, .int .u64 1000000000000, .int .u64 10000000000000, .int .u64 100000000000000, .int .u64 1000000000000000, .int .u64 10000000000000000, .int .u64 100000000000000000, .int .u64 1000000000000000000, .int .u64 10000000000000000000] t frozen
      | o => o) }
theorem laid_met (os : Os) : laidMet Tryd.prog Rows.symExecExamplesRow.laid ((laidWorld os).forCall (fun _ _ => 0) ⟨#[], #[], []⟩).memory :=
  laidMet_of_run' 8 (by kernel_rfl) (by kernel_rfl)
theorem reads (os : Os) {H : Type} (enc : TypeId × Value → H) : ∃ places, DataW.whole enc Tryd.prog ((laidWorld os).forCall (fun _ _ => 0) ⟨#[], #[], []⟩).memory Tryd.f7.params.toList Rows.symExecExamplesSpec.vars false (#[] : Array Value).toList 8 = some ([], [], places) :=
  ⟨[], by kernel_rfl⟩

theorem contract (H : Type) (enc : TypeId × Value → H) (W : World) (args : Array Value) (ds gs : List (DataW H)) (before : List MemPlace)
    (hW : DataW.Whole enc Tryd.prog Tryd.f7.params.toList Rows.symExecExamplesSpec.vars false W args.toList ds gs before) (hL : laidMetH Tryd.prog Rows.symExecExamplesRow.laid W) :
    Calls Tryd.prog 7 args W fun e W' => ∃ v, e = .returned v ∧ Rows.symExecExamplesSpec.post enc Tryd.prog Tryd.f7 false true false false W args v W' := by
  have hW' := hW
  obtain ⟨p, q, hA0, hV, rfl, hfz, hnd⟩ := hW
  have hA : DataW.TrodAll enc Tryd.prog W 0 (fun _ => true) true Tryd.f7.params.toList args.toList ds p := hA0
  rw [Tryd.params7] at hA
  obtain ⟨rfl, rfl, rfl⟩ := trodAll_none hA
  obtain ⟨rfl, rfl⟩ := trodVars_none hV
  clear hA0
  simp only [List.append_nil] at hW'
  refine (walk W hL).mono fun e W' ⟨he, hb⟩ => ?_
  subst he
  refine ⟨_, rfl, [], [], [], [], [], [], hW', ?_, rfl, rfl, hb.frame _, fun h => by cases h⟩
  exact trodAll_cons_mk (shut_bool Tryd.underlying4 _) trodAll_mk0

set_option maxRecDepth 100000 in
theorem lifted (os : Os) (started : os.Started) (H : Type) (enc : TypeId × Value → H) (F : Stop.Interp) :
    ReturnsInHanded {} Tryd.checked os 7 .any ((OpenSpec.ofChange Rows.symExecExamplesSpec).preRow enc Tryd.prog Tryd.f7 Rows.symExecExamplesRow.domain false Rows.symExecExamplesRow.laid) (((OpenSpec.ofChange Rows.symExecExamplesSpec).at F).post enc Tryd.prog Tryd.f7 false true false false) := by
  obtain ⟨places, hx⟩ := reads os enc
  refine returnsInHanded_of_row (C := Tryd.checked) (s := OpenSpec.ofChange Rows.symExecExamplesSpec) own started (by kernel_rfl) Tryd.func7
    (witness_row_atRef (enc := enc) (C := Tryd.checked) false (laidWorld os) #[] rfl (by kernel_rfl) (by kernel_rfl) (by kernel_rfl)
      (OpenSpec.preRow_of_cond 8 hx (by kernel_rfl) (fun k hk => by cases hk) (by kernel_rfl) (laid_met os))) ?_
  intro W base args ds gs before hval hW _ _ _ hL _ _
  exact contract H enc W args ds gs before hW hL

theorem said : Rows.SymExecExamplesSaid :=
  OpenClaim.holds_of_cond 7 Tryd.f7 rfl rfl rfl rfl rfl rfl rfl ⟨rfl, rfl, rfl, rfl, rfl⟩ rfl rfl rfl rfl rfl (by kernel_rfl) Tryd.func7 (by kernel_rfl)
    (of_decide_eq_true (by kernel_rfl)) (by unfold Func.isWrapper; first | (rw [if_pos (by decide +kernel)]; kernel_rfl) | (rw [if_neg (by decide +kernel)]; exact ⟨rfl, rfl⟩))
    (fun os started H enc _ F => by rw [OpenClaim.pre_eq_preRow]; exact lifted os started H enc F)

/-- No parameter at all; the program's own looks are off: what the card asks. -/
theorem plain (f : FuncId) (fn : Func) (hf : Tryd.pinned.checked.prog.funcNamed "fulling/fullinglaw39.SymExecExamples" = some f) (hfn : Tryd.pinned.checked.prog.funcs[f]? = some fn) :
    false = Tryd.pinned.checked.prog.looks [] ∧ ∀ (j : Nat) t, fn.params[j]? = some t → Tryd.pinned.checked.prog.wantsStandIn t = false := by
  obtain rfl : f = 7 := Option.some.inj ((show Tryd.prog.funcNamed "fulling/fullinglaw39.SymExecExamples" = some 7 by kernel_rfl).symm.trans hf) |>.symm
  obtain rfl : fn = Tryd.f7 := (Option.some.inj (Tryd.func7.symm.trans hfn)).symm
  refine ⟨by kernel_rfl, fun j t ht => ?_⟩
  rw [Tryd.params7] at ht
  simp at ht

theorem card : Rows.SymExecExamplesCardSaid :=
  Claim7.holds_tied_plain_at .later [] _ _ _ _ said (fun _ h => by cases h) (by kernel_rfl) (fun _ h => by cases h) symExecExamples_row_tie rfl ⟨rfl, rfl⟩ (by kernel_rfl) rfl plain (by kernel_rfl)
end Go.Proofs.YtmdhcpambdaigaaDoor.symExecExamples
