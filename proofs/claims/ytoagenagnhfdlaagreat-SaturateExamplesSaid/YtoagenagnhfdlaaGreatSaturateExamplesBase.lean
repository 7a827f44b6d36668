/-
  sort.Slice at no element or one: the library's contract, laid at this program. What every later text of this law needs.
-/
import Derived.Test.YtoagenagnhfdlaaGreatRows
import Derived.Test.YtoagenagnhfdlaaGreatEngKnown
import Derived.Shelf.GgSortFunc.Tiny
import Derived.KernelRfl
namespace Go.Proofs.YtoagenagnhfdlaaGreat.saturateExamples
open Go.Shelf

def ren : Go.Shelf.Ren := ⟨fun | 6 => 182 | 10 => 237 | 11 => 238 | 12 => 239 | 13 => 240 | 14 => 241 | 24 => 299 | 25 => 300 | 26 => 301 | 27 => 302 | 28 => 303 | 29 => 304 | 30 => 305 | 31 => 306 | 32 => 307 | 33 => 308 | 34 => 334 | 35 => 335 | 36 => 336 | 37 => 337 | 38 => 338 | 39 => 359 | n => n, fun | 20 => 20 | 26 => 282 | 35 => 352 | 0 => 0 | 37 => 120 | 3 => 3 | 41 => 226 | 44 => 358 | 49 => 207 | 51 => 104 | 4 => 4 | 54 => 400 | 53 => 399 | 58 => 152 | 5 => 5 | 9 => 9 | 60 => 416 | 64 => 420 | 66 => 435 | 67 => 436 | 17 => 17 | 32 => 349 | 33 => 350 | 82 => 457 | 12 => 12 | 75 => 451 | 76 => 452 | 77 => 453 | 78 => 363 | 79 => 454 | 80 => 455 | n => n, fun | n => n⟩
theorem sortLaid : Go.Proofs.LaysGg.n6 Tryz.prog ren := {
  mixed := by kernel_rfl,
  f6 := Tryz.func182.trans (congrArg some (by kernel_rfl)),
  f10 := Tryz.func237.trans (congrArg some (by kernel_rfl)),
  f11 := Tryz.func238.trans (congrArg some (by kernel_rfl)),
  f12 := Tryz.func239.trans (congrArg some (by kernel_rfl)),
  f13 := Tryz.func240.trans (congrArg some (by kernel_rfl)),
  f14 := Tryz.func241.trans (congrArg some (by kernel_rfl)),
  f24 := Tryz.func299.trans (congrArg some (by kernel_rfl)),
  f25 := Tryz.func300.trans (congrArg some (by kernel_rfl)),
  f26 := Tryz.func301.trans (congrArg some (by kernel_rfl)),
  f27 := Tryz.func302.trans (congrArg some (by kernel_rfl)),
  f28 := Tryz.func303.trans (congrArg some (by kernel_rfl)),
  f29 := Tryz.func304.trans (congrArg some (by kernel_rfl)),
  f30 := Tryz.func305.trans (congrArg some (by kernel_rfl)),
  f31 := Tryz.func306.trans (congrArg some (by kernel_rfl)),
  f32 := Tryz.func307.trans (congrArg some (by kernel_rfl)),
  f33 := Tryz.func308.trans (congrArg some (by kernel_rfl)),
  f34 := Tryz.func334.trans (congrArg some (by kernel_rfl)),
  f35 := Tryz.func335.trans (congrArg some (by kernel_rfl)),
  f36 := Tryz.func336.trans (congrArg some (by kernel_rfl)),
  f37 := Tryz.func337.trans (congrArg some (by kernel_rfl)),
  f38 := Tryz.func338.trans (congrArg some (by kernel_rfl)),
  f39 := Tryz.func359.trans (congrArg some (by kernel_rfl)),
  t0 := Tryz.underlying0,
  a0 := Tryz.isAgg0,
  z0 := Tryz.sizeOf0,
  v0 := Tryz.zeroValue0,
  i0 := by kernel_rfl,
  t3 := Tryz.underlying3,
  a3 := Tryz.isAgg3,
  z3 := Tryz.sizeOf3,
  v3 := Tryz.zeroValue3,
  i3 := by kernel_rfl,
  t4 := Tryz.underlying4,
  a4 := Tryz.isAgg4,
  z4 := Tryz.sizeOf4,
  v4 := Tryz.zeroValue4,
  i4 := by kernel_rfl,
  t5 := Tryz.underlying5,
  a5 := Tryz.isAgg5,
  z5 := Tryz.sizeOf5,
  v5 := Tryz.zeroValue5,
  i5 := by kernel_rfl,
  t9 := Tryz.underlying9,
  a9 := Tryz.isAgg9,
  z9 := Tryz.sizeOf9,
  v9 := Tryz.zeroValue9,
  i9 := by kernel_rfl,
  t12 := Tryz.underlying12,
  a12 := Tryz.isAgg12,
  z12 := Tryz.sizeOf12,
  v12 := Tryz.zeroValue12,
  i12 := by kernel_rfl,
  t17 := Tryz.underlying17,
  a17 := Tryz.isAgg17,
  z17 := Tryz.sizeOf17,
  v17 := Tryz.zeroValue17,
  i17 := by kernel_rfl,
  t20 := Tryz.underlying20,
  a20 := Tryz.isAgg20,
  z20 := Tryz.sizeOf20,
  v20 := Tryz.zeroValue20,
  i20 := by kernel_rfl,
  t26 := Tryz.underlying282,
  a26 := Tryz.isAgg282,
  z26 := Tryz.sizeOf282,
  v26 := Tryz.zeroValue282,
  i26 := by kernel_rfl,
  t32 := Tryz.underlying349,
  a32 := Tryz.isAgg349,
  z32 := Tryz.sizeOf349,
  v32 := Tryz.zeroValue349,
  i32 := by kernel_rfl,
  t33 := Tryz.underlying350,
  a33 := Tryz.isAgg350,
  z33 := Tryz.sizeOf350,
  v33 := Tryz.zeroValue350,
  i33 := by kernel_rfl,
  t35 := Tryz.underlying352,
  a35 := Tryz.isAgg352,
  z35 := Tryz.sizeOf352,
  v35 := Tryz.zeroValue352,
  i35 := by kernel_rfl,
  t37 := Tryz.underlying120,
  a37 := Tryz.isAgg120,
  z37 := Tryz.sizeOf120,
  v37 := Tryz.zeroValue120,
  i37 := by kernel_rfl,
  t41 := Tryz.underlying226,
  a41 := Tryz.isAgg226,
  z41 := Tryz.sizeOf226,
  v41 := Tryz.zeroValue226,
  i41 := by kernel_rfl,
  t44 := Tryz.underlying358,
  a44 := Tryz.isAgg358,
  z44 := Tryz.sizeOf358,
  v44 := Tryz.zeroValue358,
  i44 := by kernel_rfl,
  t49 := Tryz.underlying207,
  a49 := Tryz.isAgg207,
  z49 := Tryz.sizeOf207,
  v49 := Tryz.zeroValue207,
  i49 := by kernel_rfl,
  t51 := Tryz.underlying104,
  a51 := Tryz.isAgg104,
  z51 := Tryz.sizeOf104,
  v51 := Tryz.zeroValue104,
  i51 := by kernel_rfl,
  t53 := Tryz.underlying399,
  a53 := Tryz.isAgg399,
  z53 := Tryz.sizeOf399,
  v53 := Tryz.zeroValue399,
  i53 := by kernel_rfl,
  t54 := Tryz.underlying400,
  a54 := Tryz.isAgg400,
  z54 := Tryz.sizeOf400,
  v54 := Tryz.zeroValue400,
  i54 := by kernel_rfl,
  t58 := Tryz.underlying152,
  a58 := Tryz.isAgg152,
  z58 := Tryz.sizeOf152,
  v58 := Tryz.zeroValue152,
  i58 := by kernel_rfl,
  t60 := Tryz.underlying416,
  a60 := Tryz.isAgg416,
  z60 := Tryz.sizeOf416,
  v60 := Tryz.zeroValue416,
  i60 := by kernel_rfl,
  t64 := Tryz.underlying420,
  a64 := Tryz.isAgg420,
  z64 := Tryz.sizeOf420,
  v64 := Tryz.zeroValue420,
  i64 := by kernel_rfl,
  t66 := Tryz.underlying435,
  a66 := Tryz.isAgg435,
  z66 := Tryz.sizeOf435,
  v66 := Tryz.zeroValue435,
  i66 := by kernel_rfl,
  t67 := Tryz.underlying436,
  a67 := Tryz.isAgg436,
  z67 := Tryz.sizeOf436,
  v67 := Tryz.zeroValue436,
  i67 := by kernel_rfl,
  t75 := Tryz.underlying451,
  a75 := Tryz.isAgg451,
  z75 := Tryz.sizeOf451,
  v75 := Tryz.zeroValue451,
  i75 := by kernel_rfl,
  t76 := Tryz.underlying452,
  a76 := Tryz.isAgg452,
  z76 := Tryz.sizeOf452,
  v76 := Tryz.zeroValue452,
  i76 := by kernel_rfl,
  t77 := Tryz.underlying453,
  a77 := Tryz.isAgg453,
  z77 := Tryz.sizeOf453,
  v77 := Tryz.zeroValue453,
  i77 := by kernel_rfl,
  t78 := Tryz.underlying363,
  a78 := Tryz.isAgg363,
  z78 := Tryz.sizeOf363,
  v78 := Tryz.zeroValue363,
  i78 := by kernel_rfl,
  t79 := Tryz.underlying454,
  a79 := Tryz.isAgg454,
  z79 := Tryz.sizeOf454,
  v79 := Tryz.zeroValue454,
  i79 := by kernel_rfl,
  t80 := Tryz.underlying455,
  a80 := Tryz.isAgg455,
  z80 := Tryz.sizeOf455,
  v80 := Tryz.zeroValue455,
  i80 := by kernel_rfl,
  t82 := Tryz.underlying457,
  a82 := Tryz.isAgg457,
  z82 := Tryz.sizeOf457,
  v82 := Tryz.zeroValue457,
  i82 := by kernel_rfl }

noncomputable def sT227 : TypeInfo := (Tryz.prog.info? 227).get (by kernel_rfl)
noncomputable def sE227 : TypeInfo := (Tryz.prog.info? 176).get (by kernel_rfl)
/-- sort.Slice has nothing to do at no element or one -/
theorem sorted227 (p : Option Addr) (n c : Nat) (g : Fn) (a b : Array Value) (w : World) (hn : n ≤ 1) :
    Calls Tryz.prog 182 #[.iface 227 (.slice p n c), .func g a b] w fun e w' => e = .returned (.tuple #[]) ∧ ∃ os : Array Obj, w' = { w with heap := w.heap ++ os } := by
  match n, hn with
  | 0, _ => exact Any.sort_Slice_tiny sortLaid 227 176 sT227 sE227 (by kernel_rfl) (by kernel_rfl) (by kernel_rfl) (by kernel_rfl) 25 (fun _ => by kernel_rfl) p 0 c (by decide) 290 (by kernel_rfl) g a b w
  | 1, _ => exact Any.sort_Slice_tiny sortLaid 227 176 sT227 sE227 (by kernel_rfl) (by kernel_rfl) (by kernel_rfl) (by kernel_rfl) 25 (fun _ => by kernel_rfl) p 1 c (by decide) 291 (by kernel_rfl) g a b w

noncomputable def tn (f : FuncId) (t : TypeId) : Bool := f.beq 182 && t.beq 227

theorem tiny : Eng.Tiny Tryz.prog tn := {
  ok := fun f t h => by
    have h : (f.beq 182 && t.beq 227) = true := h
    simp only [Bool.and_eq_true, Eng.nbeq_iff] at h
    obtain ⟨rfl, rfl⟩ := h
    exact ⟨⟨_, Tryz.func182, by kernel_rfl⟩, fun p n c g a b w hn => sorted227 p n c g a b w hn⟩ }

instance gl : Eng.Gl := ⟨fun _ => none⟩

/-- the calls that are taken as functions -/
noncomputable def pol (f : FuncId) : Bool := f.beq 4 || f.beq 5 || f.beq 6 || f.beq 7 || f.beq 21 || f.beq 110 || f.beq 178

theorem noNum : Eng.NoNum Tryz.prog := @Eng.noNum_of gl (Eng.mxTab tn []) _ (by kernel_rfl)

theorem mixed : Tryz.prog.follows .mixedOrders = true := Tryz.checked.mixed

/-- nothing is known yet -/
noncomputable def tab0 : List Eng.KE := []
theorem known0 : ∀ e ∈ tab0, Eng.Known Tryz.prog e := Eng.known_nil

end Go.Proofs.YtoagenagnhfdlaaGreat.saturateExamples
