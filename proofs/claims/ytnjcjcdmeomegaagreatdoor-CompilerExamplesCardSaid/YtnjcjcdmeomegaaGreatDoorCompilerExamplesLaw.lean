/-
  CompilerExamples returns true, whatever the world and the tape: the engine's run of it, computed by the kernel, ends in true; its pure calls are known one by one; what it reads of the listed variables is theirs; sort.Slice at no element or one is the library's contract. The row's statement and its card. No conditions.
-/
import Derived.Test.YtnjcjcdmeomegaaGreatDoorCompilerExamplesT5
import Derived.Test.YtnjcjcdmeomegaaGreatDoorCompilerExamplesFacts
import Derived.ProofKit
import Derived.OpenShut
import Derived.Deep.DeepWitnessRowRef
import Derived.Test.YtnjcjcdmeomegaaGreatDoorCompilerExamplesTie
import Derived.Test.YtnjcjcdmeomegaaGreatDoorCards
namespace Go.Proofs.YtnjcjcdmeomegaaGreatDoor.compilerExamples
open Go.ChangeShapes Go.WideShapes Go.ChangeAt Go.RowKit

theorem own : ownKnob Tryz.prog.godebug = none := by kernel_rfl

theorem computed : Eng.isV (.bool true) (Eng.pureX (Eng.mxTab sp tab5) Tryz.prog pol 100000 3 []) = true := by kernel_rfl

noncomputable instance mxI : Eng.Mx := Eng.mxTab sp tab5

theorem convG1 : Eng.conv Tryz.prog 4 731 Rows.laid_internal_strconv_uint64pow10 = some (match tabG1 with | .fp xs => xs | _ => []) := by kernel_rfl
theorem convG2 : Eng.conv Tryz.prog 4 751 Rows.laid_math_bits_deBruijn32tab = some (match tabG2 with | .fp xs => xs | _ => []) := by kernel_rfl
theorem convG3 : Eng.conv Tryz.prog 4 752 Rows.laid_math_bits_deBruijn64tab = some (match tabG3 with | .fp xs => xs | _ => []) := by kernel_rfl
theorem convG0 : Eng.conv Tryz.prog 4 489 Rows.laid_fulling_machine_table = some (match tabG0 with | .fp xs => xs | _ => []) := by kernel_rfl
noncomputable def laidAt (w : World) (h : laidMetH Tryz.prog Rows.compilerExamplesRow.laid w) : Eng.Laid w :=
  Eng.laid_of fun g v hg => by
    have h : laidMet Tryz.prog Rows.compilerExamplesRow.laid w := h
    obtain ⟨ps, hps, _⟩ := h
    have hg : (bif g.beq 0 then some tabG0 else bif g.beq 3 then some tabG3 else bif g.beq 2 then some tabG2 else bif g.beq 1 then some tabG1 else none) = some v := hg
    by_cases e0 : g = 0
    · subst e0
      have hv : v = tabG0 := (Option.some.inj hg).symm
      subst hv
      exact Eng.laid_vars hps "fulling/machine.table" _ (by simp [Rows.compilerExamplesRow]) 0 489 (by kernel_rfl) (by kernel_rfl) 4 _ convG0
    rw [Eng.nbeq_false e0] at hg
    have hg : (bif g.beq 3 then some tabG3 else bif g.beq 2 then some tabG2 else bif g.beq 1 then some tabG1 else none) = some v := hg
    by_cases e3 : g = 3
    · subst e3
      have hv : v = tabG3 := (Option.some.inj hg).symm
      subst hv
      exact Eng.laid_vars hps "math/bits.deBruijn64tab" _ (by simp [Rows.compilerExamplesRow]) 3 752 (by kernel_rfl) (by kernel_rfl) 4 _ convG3
    rw [Eng.nbeq_false e3] at hg
    have hg : (bif g.beq 2 then some tabG2 else bif g.beq 1 then some tabG1 else none) = some v := hg
    by_cases e2 : g = 2
    · subst e2
      have hv : v = tabG2 := (Option.some.inj hg).symm
      subst hv
      exact Eng.laid_vars hps "math/bits.deBruijn32tab" _ (by simp [Rows.compilerExamplesRow]) 2 751 (by kernel_rfl) (by kernel_rfl) 4 _ convG2
    rw [Eng.nbeq_false e2] at hg
    have hg : (bif g.beq 1 then some tabG1 else none) = some v := hg
    by_cases e1 : g = 1
    · subst e1
      have hv : v = tabG1 := (Option.some.inj hg).symm
      subst hv
      exact Eng.laid_vars hps "internal/strconv.uint64pow10" _ (by simp [Rows.compilerExamplesRow]) 1 731 (by kernel_rfl) (by kernel_rfl) 4 _ convG1
    rw [Eng.nbeq_false e1] at hg
    have hg : (none) = some v := hg
    cases hg

theorem walk (w : World) (h : laidMetH Tryz.prog Rows.compilerExamplesRow.laid w) : Calls Tryz.prog 3 #[] w fun e w' => e = .returned (.bool true) ∧ Below w.heap.size w w' :=
  Eng.law_of mixed (Eng.mxTab_ok spOk known5) noNum computed w (laidAt w h)

/-- A world for the witness: the settled one, each listed table holding what its initialiser lays. -/
noncomputable def laidWorld (os : Os) : World :=
  { World.holding Tryz.prog os ⟨#[.cells #[.string ⟨#[110, 111, 112]⟩, .int .i64 1, .bool false, .bool false, .bool false, .bool false, .int .i64 1, .string ⟨#[114, 101, 116]⟩, .int .i64 1, .bool false, .bool false, .bool false, .bool false, .int .i64 1, .string ⟨#[116, 105, 99, 107]⟩, .int .i64 1, .bool false, .bool false, .bool false, .bool false, .int .i64 1, .string ⟨#[116, 114, 97, 112]⟩, .int .i64 8, .bool false, .bool false, .bool false, .bool true, .int .i64 1, .string ⟨#[106, 109, 112]⟩, .int .i64 8, .bool false, .bool false, .bool false, .bool false, .int .i64 1, .string ⟨#[99, 97, 108, 108]⟩, .int .i64 5, .bool false, .bool false, .bool false, .bool false, .int .i64 1, .string ⟨#[106, 122]⟩, .int .i64 5, .bool true, .bool false, .bool false, .bool false, .int .i64 1, .string ⟨#[106, 110, 122]⟩, .int .i64 5, .bool true, .bool false, .bool false, .bool false, .int .i64 1, .string ⟨#[111, 117, 116]⟩, .int .i64 2, .bool true, .bool false, .bool false, .bool false, .int .i64 1, .string ⟨#[109, 111, 118]⟩, .int .i64 3, .bool false, .bool true, .bool true, .bool false, .int .i64 1, .string ⟨#[99, 109, 111, 118, 122]⟩, .int .i64 4, .bool true, .bool true, .bool true, .bool false, .int .i64 1, .string ⟨#[99, 109, 111, 118, 110, 122]⟩, .int .i64 4, .bool true, .bool true, .bool true, .bool false, .int .i64 1, .string ⟨#[108, 100, 105]⟩, .int .i64 5, .bool false, .bool true, .bool false, .bool false, .int .i64 1, .string ⟨#[108, 100, 99]⟩, .int .i64 6, .bool false, .bool true, .bool false, .bool false, .int .i64 3, .string ⟨#[110, 101, 103]⟩, .int .i64 2, .bool true, .bool true, .bool false, .bool false, .int .i64 1, .string ⟨#[110, 111, 116]⟩, .int .i64 2, .bool true, .bool true, .bool false, .bool false, .int .i64 1, .string ⟨#[97, 100, 100]⟩, .int .i64 3, .bool true, .bool true, .bool true, .bool false, .int .i64 1, .string ⟨#[115, 117, 98]⟩, .int .i64 3, .bool true, .bool true, .bool true, .bool false, .int .i64 1, .string ⟨#[109, 117, 108]⟩, .int .i64 3, .bool true, .bool true, .bool true, .bool false, .int .i64 1, .string ⟨#[100, 105, 118]⟩, .int .i64 3, .bool true, .bool true, .bool true, .bool true, .int .i64 1, .string ⟨#[114, 101, 109]⟩, .int .i64 3, .bool true, .bool true, .bool true, .bool true, .int .i64 1, .string ⟨#[97, 110, 100]⟩, .int .i64 3, .bool true, .bool true, .bool true, .bool false, .int .i64 1, .string ⟨#[111, 114]⟩, .int .i64 3, .bool true, .bool true, .bool true, .bool false, .int .i64 1, .string ⟨#[120, 111, 114]⟩, .int .i64 3, .bool true, .bool true, .bool true, .bool false, .int .i64 1, .string ⟨#[115, 104, 108]⟩, .int .i64 3, .bool true, .bool true, .bool true, .bool false, .int .i64 1, .string ⟨#[115, 104, 114]⟩, .int .i64 3, .bool true, .bool true, .bool true, .bool false, .int .i64 1, .string ⟨#[115, 97, 114]⟩, .int .i64 3, .bool true, .bool true, .bool true, .bool false, .int .i64 1, .string ⟨#[101, 113]⟩, .int .i64 3, .bool true, .bool true, .bool true, .bool false, .int .i64 1, .string ⟨#[110, 101]⟩, .int .i64 3, .bool true, .bool true, .bool true, .bool false, .int .i64 1, .string ⟨#[108, 116]⟩, .int .i64 3, .bool true, .bool true, .bool true, .bool false, .int .i64 1, .string ⟨#[108, 101]⟩, .int .i64 3, .bool true, .bool true, .bool true, .bool false, .int .i64 1, .string ⟨#[108, 116, 117]⟩, .int .i64 3, .bool true, .bool true, .bool true, .bool false, .int .i64 1, .string ⟨#[97, 100, 100, 105]⟩, .int .i64 5, .bool true, .bool true, .bool false, .bool false, .int .i64 1, .string ⟨#[108, 100]⟩, .int .i64 7, .bool false, .bool true, .bool true, .bool true, .int .i64 1, .string ⟨#[115, 116]⟩, .int .i64 7, .bool true, .bool false, .bool true, .bool true, .int .i64 1, .string ⟨#[108, 100, 115]⟩, .int .i64 5, .bool false, .bool true, .bool false, .bool false, .int .i64 1, .string ⟨#[115, 116, 115]⟩, .int .i64 5, .bool true, .bool false, .bool false, .bool false, .int .i64 1] 355 (0, 0)], #[], []⟩ with heap := (((((World.holding Tryz.prog os ⟨#[.cells #[.string ⟨#[110, 111, 112]⟩, .int .i64 1, .bool false, .bool false, .bool false, .bool false, .int .i64 1, .string ⟨#[114, 101, 116]⟩, .int .i64 1, .bool false, .bool false, .bool false, .bool false, .int .i64 1, .string ⟨#[116, 105, 99, 107]⟩, .int .i64 1, .bool false, .bool false, .bool false, .bool false, .int .i64 1, .string ⟨#[116, 114, 97, 112]⟩, .int .i64 8, .bool false, .bool false, .bool false, .bool true, .int .i64 1, .string ⟨#[106, 109, 112]⟩, .int .i64 8, .bool false, .bool false, .bool false, .bool false, .int .i64 1, .string ⟨#[99, 97, 108, 108]⟩, .int .i64 5, .bool false, .bool false, .bool false, .bool false, .int .i64 1, .string ⟨#[106, 122]⟩, .int .i64 5, .bool true, .bool false, .bool false, .bool false, .int .i64 1, .string ⟨#[106, 110, 122]⟩, .int .i64 5, .bool true, .bool false, .bool false, .bool false, .int .i64 1, .string ⟨#[111, 117, 116]⟩, .int .i64 2, .bool true, .bool false, .bool false, .bool false, .int .i64 1, .string ⟨#[109, 111, 118]⟩, .int .i64 3, .bool false, .bool true, .bool true, .bool false, .int .i64 1, .string ⟨#[99, 109, 111, 118, 122]⟩, .int .i64 4, .bool true, .bool true, .bool true, .bool false, .int .i64 1, .string ⟨#[99, 109, 111, 118, 110, 122]⟩, .int .i64 4, .bool true, .bool true, .bool true, .bool false, .int .i64 1, .string ⟨#[108, 100, 105]⟩, .int .i64 5, .bool false, .bool true, .bool false, .bool false, .int .i64 1, .string ⟨#[108, 100, 99]⟩, .int .i64 6, .bool false, .bool true, .bool false, .bool false, .int .i64 3, .string ⟨#[110, 101, 103]⟩, .int .i64 2, .bool true, .bool true, .bool false, .bool false, .int .i64 1, .string ⟨#[110, 111, 116]⟩, .int .i64 2, .bool true, .bool true, .bool false, .bool false, .int .i64 1, .string ⟨#[97, 100, 100]⟩, .int .i64 3, .bool true, .bool true, .bool true, .bool false, .int .i64 1, .string ⟨#[115, 117, 98]⟩, .int .i64 3, .bool true, .bool true, .bool true, .bool false, .int .i64 1, .string ⟨#[109, 117, 108]⟩, .int .i64 3, .bool true, .bool true, .bool true, .bool false, .int .i64 1, .string ⟨#[100, 105, 118]⟩, .int .i64 3, .bool true, .bool true, .bool true, .bool true, .int .i64 1, .string ⟨#[114, 101, 109]⟩, .int .i64 3, .bool true, .bool true, .bool true, .bool true, .int .i64 1, .string ⟨#[97, 110, 100]⟩, .int .i64 3, .bool true, .bool true, .bool true, .bool false, .int .i64 1, .string ⟨#[111, 114]⟩, .int .i64 3, .bool true, .bool true, .bool true, .bool false, .int .i64 1, .string ⟨#[120, 111, 114]⟩, .int .i64 3, .bool true, .bool true, .bool true, .bool false, .int .i64 1, .string ⟨#[115, 104, 108]⟩, .int .i64 3, .bool true, .bool true, .bool true, .bool false, .int .i64 1, .string ⟨#[115, 104, 114]⟩, .int .i64 3, .bool true, .bool true, .bool true, .bool false, .int .i64 1, .string ⟨#[115, 97, 114]⟩, .int .i64 3, .bool true, .bool true, .bool true, .bool false, .int .i64 1, .string ⟨#[101, 113]⟩, .int .i64 3, .bool true, .bool true, .bool true, .bool false, .int .i64 1, .string ⟨#[110, 101]⟩, .int .i64 3, .bool true, .bool true, .bool true, .bool false, .int .i64 1, .string ⟨#[108, 116]⟩, .int .i64 3, .bool true, .bool true, .bool true, .bool false, .int .i64 1, .string ⟨#[108, 101]⟩, .int .i64 3, .bool true, .bool true, .bool true, .bool false, .int .i64 1, .string ⟨#[108, 116, 117]⟩, .int .i64 3, .bool true, .bool true, .bool true, .bool false, .int .i64 1, .string ⟨#[97, 100, 100, 105]⟩, .int .i64 5, .bool true, .bool true, .bool false, .bool false, .int .i64 1, .string ⟨#[108, 100]⟩, .int .i64 7, .bool false, .bool true, .bool true, .bool true, .int .i64 1, .string ⟨#[115, 116]⟩, .int .i64 7, .bool true, .bool false, .bool true, .bool true, .int .i64 1, .string ⟨#[108, 100, 115]⟩, .int .i64 5, .bool false, .bool true, .bool false, .bool false, .int .i64 1, .string ⟨#[115, 116, 115]⟩, .int .i64 5, .bool true, .bool false, .bool false, .bool false, .int .i64 1] 355 (0, 0)], #[], []⟩).heap.modify 1 fun
      | .cells _ t frozen => .cells #[.int .u64 1, .int .u64 10, .int .u64 100, .int .u64 1000, .int .u64 10000, .int .u64 100000, .int .u64 1000000, .int .u64 10000000, .int .u64 100000000, .int .u64 1000000000, .int .u64 10000000000, .int .u64 100000000000, .int .u64 1000000000000, .int .u64 10000000000000, .int .u64 100000000000000, .int .u64 1000000000000000, .int .u64 10000000000000000, .int .u64 100000000000000000, .int .u64 1000000000000000000, .int .u64 10000000000000000000] t frozen
      | o => o).modify 2 fun
      | .cells _ t frozen => .cells #[.int .u8 0, .int .u8 1, .int .u8 28, .int .u8 2, .int .u8 29, .int .u8 14, .int .u8 24, .int .u8 3, .int .u8 30, .int .u8 22, .int .u8 20, .int .u8 15, .int .u8 25, .int .u8 17, .int .u8 4, .int .u8 8, .int .u8 31, .int .u8 27, .int .u8 13, .int .u8 23, .int .u8 21, .int .u8 19, .int .u8 16, .int .u8 7, .int .u8 26, .int .u8 12, .int .u8 18, .int .u8 6, .int .u8 11, .int .u8 5, .int .u8 10, .int .u8 9] t frozen
      | o => o).modify 3 fun
      | .cells _ t frozen => .cells #[.int .u8 0, .int .u8 1, .int .u8 56, .int .u8 2, .int .u8 57, .int .u8 49, .int .u8 28, .int .u8 3, .int .u8 61, .int .u8 58, .int .u8 42, .int .u8 50, .int .u8 38, .int .u8 29, .int .u8 17, .int .u8 4, .int .u8 62, .int .u8 47, .int .u8 59, .int .u8 36, .int .u8 45, .int .u8 43, .int .u8 51, .int .u8 22, .int .u8 53, .int .u8 39, .int .u8 33, .int .u8 30, .int .u8 24, .int .u8 18, .int .u8 12, .int .u8 5, .int .u8 63, .int .u8 55, .int .u8 48, .int .u8 27, .int .u8 60, .int .u8 41, .int .u8 37, .int .u8 16, .int .u8 46, .int .u8 35, .int .u8 44, .int .u8 21, .int .u8 52, .int .u8 32, .int .u8 23, .int .u8 11, .int .u8 54, .int .u8 26, .int .u8 40, .int .u8 15, .int .u8 34, .int .u8 20, .int .u8 31, .int .u8 10, .int .u8 25, .int .u8 14, .int .u8 19, .int .u8 9, .int .u8 13, .int .u8 8, .int .u8 7, .int .u8 6] t frozen
      | o => o).modify 0 fun
      | .cells _ t frozen => .cells #[.slice (some ⟨(World.settled Tryz.prog os).heap.size + 0, 0, none⟩) 37 37] t frozen
      | o => o) }
theorem lm1 (os : Os) : (DataW.laidRun Tryz.prog ((laidWorld os).forCall (fun _ _ => 0) ⟨#[], #[], []⟩).memory 8 (Rows.compilerExamplesRow.laid.map (·.1))).map (·.1) = some Rows.compilerExamplesRow.laid := by kernel_rfl
noncomputable def plw (os : Os) : List MemPlace := ((DataW.laidRun Tryz.prog ((laidWorld os).forCall (fun _ _ => 0) ⟨#[], #[], []⟩).memory 8 (Rows.compilerExamplesRow.laid.map (·.1))).map (·.2)).getD []
theorem lm2 (os : Os) : plw os = plL := by kernel_rfl
theorem lm3 (os : Os) : laidRowsB Tryz.prog ((laidWorld os).forCall (fun _ _ => 0) ⟨#[], #[], []⟩).memory plL = true := by kernel_rfl
theorem laid_met (os : Os) : laidMet Tryz.prog Rows.compilerExamplesRow.laid ((laidWorld os).forCall (fun _ _ => 0) ⟨#[], #[], []⟩).memory := by
  refine laidMet_of_run' 8 (lm1 os) ?_
  have h8 := lm1 os
  have h1 := lm2 os
  unfold plw at h1
  cases hx : DataW.laidRun Tryz.prog ((laidWorld os).forCall (fun _ _ => 0) ⟨#[], #[], []⟩).memory 8 (Rows.compilerExamplesRow.laid.map (·.1)) with
  | none => rw [hx] at h8; cases h8
  | some x =>
    rw [hx, Option.map_some, Option.getD_some] at h1
    rw [Option.map_some, h1, decide_eq_true y2, lm3 os]
    rfl
theorem reads (os : Os) {H : Type} (enc : TypeId × Value → H) : ∃ places, DataW.whole enc Tryz.prog ((laidWorld os).forCall (fun _ _ => 0) ⟨#[], #[], []⟩).memory Tryz.f3.params.toList Rows.compilerExamplesSpec.vars false (#[] : Array Value).toList 8 = some ([], [], places) :=
  ⟨[], by kernel_rfl⟩

theorem contract (H : Type) (enc : TypeId × Value → H) (W : World) (args : Array Value) (ds gs : List (DataW H)) (before : List MemPlace)
    (hW : DataW.Whole enc Tryz.prog Tryz.f3.params.toList Rows.compilerExamplesSpec.vars false W args.toList ds gs before) (hL : laidMetH Tryz.prog Rows.compilerExamplesRow.laid W) :
    Calls Tryz.prog 3 args W fun e W' => ∃ v, e = .returned v ∧ Rows.compilerExamplesSpec.post enc Tryz.prog Tryz.f3 false true false false W args v W' := by
  have hW' := hW
  obtain ⟨p, q, hA0, hV, rfl, hfz, hnd⟩ := hW
  have hA : DataW.TrodAll enc Tryz.prog W 0 (fun _ => true) true Tryz.f3.params.toList args.toList ds p := hA0
  rw [Tryz.params3] at hA
  obtain ⟨rfl, rfl, rfl⟩ := trodAll_none hA
  obtain ⟨rfl, rfl⟩ := trodVars_none hV
  clear hA0
  simp only [List.append_nil] at hW'
  refine (walk W hL).mono fun e W' ⟨he, hb⟩ => ?_
  subst he
  refine ⟨_, rfl, [], [], [], [], [], [], hW', ?_, rfl, rfl, hb.frame _, fun h => by cases h⟩
  exact trodAll_cons_mk (shut_bool Tryz.underlying4 _) trodAll_mk0

set_option maxRecDepth 100000 in
theorem lifted (os : Os) (started : os.Started) (H : Type) (enc : TypeId × Value → H) (F : Stop.Interp) :
    ReturnsInHanded {} Tryz.checked os 3 .any ((OpenSpec.ofChange Rows.compilerExamplesSpec).preRow enc Tryz.prog Tryz.f3 Rows.compilerExamplesRow.domain false Rows.compilerExamplesRow.laid) (((OpenSpec.ofChange Rows.compilerExamplesSpec).at F).post enc Tryz.prog Tryz.f3 false true false false) := by
  obtain ⟨places, hx⟩ := reads os enc
  refine returnsInHanded_of_row (C := Tryz.checked) (s := OpenSpec.ofChange Rows.compilerExamplesSpec) own started (by kernel_rfl) Tryz.func3
    (witness_row_atRef (enc := enc) (C := Tryz.checked) false (laidWorld os) #[] rfl (by kernel_rfl) (by kernel_rfl) (by kernel_rfl)
      (OpenSpec.preRow_of_cond 8 hx (by kernel_rfl) (fun k hk => by cases hk) (by kernel_rfl) (laid_met os))) ?_
  intro W base args ds gs before hval hW _ _ _ hL _ _
  exact contract H enc W args ds gs before hW hL

theorem said : Rows.CompilerExamplesSaid :=
  OpenClaim.holds_of_cond 3 Tryz.f3 rfl rfl rfl rfl rfl rfl rfl ⟨rfl, rfl, rfl, rfl, rfl⟩ rfl rfl rfl rfl rfl (by kernel_rfl) Tryz.func3 facts
    (of_decide_eq_true (by kernel_rfl)) (by unfold Func.isWrapper; first | (rw [if_pos (by decide +kernel)]; kernel_rfl) | (rw [if_neg (by decide +kernel)]; exact ⟨rfl, rfl⟩))
    (fun os started H enc _ F => by rw [OpenClaim.pre_eq_preRow]; exact lifted os started H enc F)

/-- No parameter at all; the program's own looks are off: what the card asks. -/
theorem plain (f : FuncId) (fn : Func) (hf : Tryz.pinned.checked.prog.funcNamed "fulling/fullinglaw41.CompilerExamples" = some f) (hfn : Tryz.pinned.checked.prog.funcs[f]? = some fn) :
    false = Tryz.pinned.checked.prog.looks [] ∧ ∀ (j : Nat) t, fn.params[j]? = some t → Tryz.pinned.checked.prog.wantsStandIn t = false := by
  obtain rfl : f = 3 := Option.some.inj ((show Tryz.prog.funcNamed "fulling/fullinglaw41.CompilerExamples" = some 3 by kernel_rfl).symm.trans hf) |>.symm
  obtain rfl : fn = Tryz.f3 := (Option.some.inj (Tryz.func3.symm.trans hfn)).symm
  refine ⟨by kernel_rfl, fun j t ht => ?_⟩
  rw [Tryz.params3] at ht
  simp at ht

theorem goesNot : false = Rows.compilerExamplesRow.goesBy Tryz.prog := by
  have f : Tryz.prog.funcNamed Rows.compilerExamplesRow.func = some 3 := by kernel_rfl
  have h : Tryz.prog.goesFrom Rows.compilerExamplesRow.func = false := by
    unfold Program.goesFrom
    rw [f, Option.any_some]
    exact g0
  have e : Rows.compilerExamplesRow.start = .entering := rfl
  unfold OpenClaim.goesBy Program.goesAt
  rw [h, e]
  rfl

theorem card : Rows.CompilerExamplesCardSaid :=
  Claim7.holds_tied_plain_at .later [] _ _ _ _ said (fun _ h => by cases h) (by kernel_rfl) (fun _ h => by cases h) row_tie rfl ⟨rfl, rfl⟩ (by kernel_rfl) rfl plain goesNot
end Go.Proofs.YtnjcjcdmeomegaaGreatDoor.compilerExamples
