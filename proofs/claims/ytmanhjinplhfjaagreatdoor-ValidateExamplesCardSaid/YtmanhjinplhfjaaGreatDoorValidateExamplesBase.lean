/-
  sort.Slice at no element or one: the library's contract, laid at this program. What every later text of this law needs.
-/
import Derived.Test.YtmanhjinplhfjaaGreatDoorProg
import Derived.Test.YtmanhjinplhfjaaGreatDoorEngC
import Derived.Shelf.GgSortFunc.Tiny
import Derived.KernelRfl
namespace Go.Proofs.YtmanhjinplhfjaaGreatDoor.validateExamples
open Go.Shelf

def ren : Go.Shelf.Ren := ⟨fun | 6 => 202 | 10 => 345 | 11 => 346 | 12 => 347 | 13 => 348 | 14 => 349 | 24 => 501 | 25 => 502 | 26 => 503 | 27 => 504 | 28 => 505 | 29 => 506 | 30 => 507 | 31 => 508 | 32 => 509 | 33 => 510 | 34 => 582 | 35 => 583 | 36 => 584 | 37 => 585 | 38 => 586 | 39 => 636 | n => n, fun | 20 => 20 | 26 => 379 | 35 => 560 | 0 => 0 | 37 => 275 | 3 => 3 | 41 => 93 | 44 => 566 | 49 => 384 | 51 => 114 | 4 => 4 | 54 => 675 | 53 => 674 | 58 => 249 | 5 => 5 | 9 => 9 | 60 => 717 | 64 => 720 | 66 => 759 | 67 => 645 | 17 => 17 | 32 => 557 | 33 => 558 | 82 => 787 | 12 => 12 | 75 => 781 | 76 => 782 | 77 => 783 | 78 => 571 | 79 => 784 | 80 => 785 | n => n, fun | n => n⟩
theorem sortLaid : Go.Proofs.LaysGg.n6 Tryz.prog ren := {
  mixed := by kernel_rfl,
  f6 := Tryz.func202.trans (congrArg some (by kernel_rfl)),
  f10 := Tryz.func345.trans (congrArg some (by kernel_rfl)),
  f11 := Tryz.func346.trans (congrArg some (by kernel_rfl)),
  f12 := Tryz.func347.trans (congrArg some (by kernel_rfl)),
  f13 := Tryz.func348.trans (congrArg some (by kernel_rfl)),
  f14 := Tryz.func349.trans (congrArg some (by kernel_rfl)),
  f24 := Tryz.func501.trans (congrArg some (by kernel_rfl)),
  f25 := Tryz.func502.trans (congrArg some (by kernel_rfl)),
  f26 := Tryz.func503.trans (congrArg some (by kernel_rfl)),
  f27 := Tryz.func504.trans (congrArg some (by kernel_rfl)),
  f28 := Tryz.func505.trans (congrArg some (by kernel_rfl)),
  f29 := Tryz.func506.trans (congrArg some (by kernel_rfl)),
  f30 := Tryz.func507.trans (congrArg some (by kernel_rfl)),
  f31 := Tryz.func508.trans (congrArg some (by kernel_rfl)),
  f32 := Tryz.func509.trans (congrArg some (by kernel_rfl)),
  f33 := Tryz.func510.trans (congrArg some (by kernel_rfl)),
  f34 := Tryz.func582.trans (congrArg some (by kernel_rfl)),
  f35 := Tryz.func583.trans (congrArg some (by kernel_rfl)),
  f36 := Tryz.func584.trans (congrArg some (by kernel_rfl)),
  f37 := Tryz.func585.trans (congrArg some (by kernel_rfl)),
  f38 := Tryz.func586.trans (congrArg some (by kernel_rfl)),
  f39 := Tryz.func636.trans (congrArg some (by kernel_rfl)),
  t0 := Tryz.underlying0,
  a0 := Tryz.isAgg0,
  z0 := Tryz.sizeOf0,
  v0 := Tryz.zeroValue0,
  i0 := by kernel_rfl,
  t3 := Tryz.underlying3,
  a3 := Tryz.isAgg3,
  z3 := Tryz.sizeOf3,
  v3 := Tryz.zeroValue3,
  i3 := by kernel_rfl,
  t4 := Tryz.underlying4,
  a4 := Tryz.isAgg4,
  z4 := Tryz.sizeOf4,
  v4 := Tryz.zeroValue4,
  i4 := by kernel_rfl,
  t5 := Tryz.underlying5,
  a5 := Tryz.isAgg5,
  z5 := Tryz.sizeOf5,
  v5 := Tryz.zeroValue5,
  i5 := by kernel_rfl,
  t9 := Tryz.underlying9,
  a9 := Tryz.isAgg9,
  z9 := Tryz.sizeOf9,
  v9 := Tryz.zeroValue9,
  i9 := by kernel_rfl,
  t12 := Tryz.underlying12,
  a12 := Tryz.isAgg12,
  z12 := Tryz.sizeOf12,
  v12 := Tryz.zeroValue12,
  i12 := by kernel_rfl,
  t17 := Tryz.underlying17,
  a17 := Tryz.isAgg17,
  z17 := Tryz.sizeOf17,
  v17 := Tryz.zeroValue17,
  i17 := by kernel_rfl,
  t20 := Tryz.underlying20,
  a20 := Tryz.isAgg20,
  z20 := Tryz.sizeOf20,
  v20 := Tryz.zeroValue20,
  i20 := by kernel_rfl,
  t26 := Tryz.underlying379,
  a26 := Tryz.isAgg379,
  z26 := Tryz.sizeOf379,
  v26 := Tryz.zeroValue379,
  i26 := by kernel_rfl,
  t32 := Tryz.underlying557,
  a32 := Tryz.isAgg557,
  z32 := Tryz.sizeOf557,
  v32 := Tryz.zeroValue557,
  i32 := by kernel_rfl,
  t33 := Tryz.underlying558,
  a33 := Tryz.isAgg558,
  z33 := Tryz.sizeOf558,
  v33 := Tryz.zeroValue558,
  i33 := by kernel_rfl,
  t35 := Tryz.underlying560,
  a35 := Tryz.isAgg560,
  z35 := Tryz.sizeOf560,
  v35 := Tryz.zeroValue560,
  i35 := by kernel_rfl,
  t37 := Tryz.underlying275,
  a37 := Tryz.isAgg275,
  z37 := Tryz.sizeOf275,
  v37 := Tryz.zeroValue275,
  i37 := by kernel_rfl,
  t41 := Tryz.underlying93,
  a41 := Tryz.isAgg93,
  z41 := Tryz.sizeOf93,
  v41 := Tryz.zeroValue93,
  i41 := by kernel_rfl,
  t44 := Tryz.underlying566,
  a44 := Tryz.isAgg566,
  z44 := Tryz.sizeOf566,
  v44 := Tryz.zeroValue566,
  i44 := by kernel_rfl,
  t49 := Tryz.underlying384,
  a49 := Tryz.isAgg384,
  z49 := Tryz.sizeOf384,
  v49 := Tryz.zeroValue384,
  i49 := by kernel_rfl,
  t51 := Tryz.underlying114,
  a51 := Tryz.isAgg114,
  z51 := Tryz.sizeOf114,
  v51 := Tryz.zeroValue114,
  i51 := by kernel_rfl,
  t53 := Tryz.underlying674,
  a53 := Tryz.isAgg674,
  z53 := Tryz.sizeOf674,
  v53 := Tryz.zeroValue674,
  i53 := by kernel_rfl,
  t54 := Tryz.underlying675,
  a54 := Tryz.isAgg675,
  z54 := Tryz.sizeOf675,
  v54 := Tryz.zeroValue675,
  i54 := by kernel_rfl,
  t58 := Tryz.underlying249,
  a58 := Tryz.isAgg249,
  z58 := Tryz.sizeOf249,
  v58 := Tryz.zeroValue249,
  i58 := by kernel_rfl,
  t60 := Tryz.underlying717,
  a60 := Tryz.isAgg717,
  z60 := Tryz.sizeOf717,
  v60 := Tryz.zeroValue717,
  i60 := by kernel_rfl,
  t64 := Tryz.underlying720,
  a64 := Tryz.isAgg720,
  z64 := Tryz.sizeOf720,
  v64 := Tryz.zeroValue720,
  i64 := by kernel_rfl,
  t66 := Tryz.underlying759,
  a66 := Tryz.isAgg759,
  z66 := Tryz.sizeOf759,
  v66 := Tryz.zeroValue759,
  i66 := by kernel_rfl,
  t67 := Tryz.underlying645,
  a67 := Tryz.isAgg645,
  z67 := Tryz.sizeOf645,
  v67 := Tryz.zeroValue645,
  i67 := by kernel_rfl,
  t75 := Tryz.underlying781,
  a75 := Tryz.isAgg781,
  z75 := Tryz.sizeOf781,
  v75 := Tryz.zeroValue781,
  i75 := by kernel_rfl,
  t76 := Tryz.underlying782,
  a76 := Tryz.isAgg782,
  z76 := Tryz.sizeOf782,
  v76 := Tryz.zeroValue782,
  i76 := by kernel_rfl,
  t77 := Tryz.underlying783,
  a77 := Tryz.isAgg783,
  z77 := Tryz.sizeOf783,
  v77 := Tryz.zeroValue783,
  i77 := by kernel_rfl,
  t78 := Tryz.underlying571,
  a78 := Tryz.isAgg571,
  z78 := Tryz.sizeOf571,
  v78 := Tryz.zeroValue571,
  i78 := by kernel_rfl,
  t79 := Tryz.underlying784,
  a79 := Tryz.isAgg784,
  z79 := Tryz.sizeOf784,
  v79 := Tryz.zeroValue784,
  i79 := by kernel_rfl,
  t80 := Tryz.underlying785,
  a80 := Tryz.isAgg785,
  z80 := Tryz.sizeOf785,
  v80 := Tryz.zeroValue785,
  i80 := by kernel_rfl,
  t82 := Tryz.underlying787,
  a82 := Tryz.isAgg787,
  z82 := Tryz.sizeOf787,
  v82 := Tryz.zeroValue787,
  i82 := by kernel_rfl }

/-- what is special: sort.Slice, and the literals that swap -/
noncomputable def sp : Eng.Sp := { tn := fun _ _ => false, so := fun _ _ => none, sw := fun _ => false, ro := fun f => f.beq 525 || f.beq 524 }

theorem spOk : Eng.SpOk Tryz.prog sp := {
  tiny := fun _ _ h => by cases h
  sorts := fun _ _ _ h => by cases h
  swaps := fun _ h => by cases h
  externs := fun _ _ _ h => by cases h }

/-- what the variable fulling/machine.table points at -/
def tabG0 : Eng.AV := .fp [.fs [.str ⟨#[110, 111, 112]⟩, .int .i64 1, .bool false, .bool false, .bool false, .bool false, .int .i64 1, .str ⟨#[114, 101, 116]⟩, .int .i64 1, .bool false, .bool false, .bool false, .bool false, .int .i64 1, .str ⟨#[116, 105, 99, 107]⟩, .int .i64 1, .bool false, .bool false, .bool false, .bool false, .int .i64 1, .str ⟨#[116, 114, 97, 112]⟩, .int .i64 8, .bool false, .bool false, .bool false, .bool true, .int .i64 1, .str ⟨#[106, 109, 112]⟩, .int .i64 8, .bool false, .bool false, .bool false, .bool false, .int .i64 1, .str ⟨#[99, 97, 108, 108]⟩, .int .i64 5, .bool false, .bool false, .bool false, .bool false, .int .i64 1, .str ⟨#[106, 122]⟩, .int .i64 5, .bool true, .bool false, .bool false, .bool false, .int .i64 1, .str ⟨#[106, 110, 122]⟩, .int .i64 5, .bool true, .bool false, .bool false, .bool false, .int .i64 1, .str ⟨#[111, 117, 116]⟩, .int .i64 2, .bool true, .bool false, .bool false, .bool false, .int .i64 1, .str ⟨#[109, 111, 118]⟩, .int .i64 3, .bool false, .bool true, .bool true, .bool false, .int .i64 1, .str ⟨#[99, 109, 111, 118, 122]⟩, .int .i64 4, .bool true, .bool true, .bool true, .bool false, .int .i64 1, .str ⟨#[99, 109, 111, 118, 110, 122]⟩, .int .i64 4, .bool true, .bool true, .bool true, .bool false, .int .i64 1, .str ⟨#[108, 100, 105]⟩, .int .i64 5, .bool false, .bool true, .bool false, .bool false, .int .i64 1, .str ⟨#[108, 100, 99]⟩, .int .i64 6, .bool false, .bool true, .bool false, .bool false, .int .i64 3, .str ⟨#[110, 101, 103]⟩, .int .i64 2, .bool true, .bool true, .bool false, .bool false, .int .i64 1, .str ⟨#[110, 111, 116]⟩, .int .i64 2, .bool true, .bool true, .bool false, .bool false, .int .i64 1, .str ⟨#[97, 100, 100]⟩, .int .i64 3, .bool true, .bool true, .bool true, .bool false, .int .i64 1, .str ⟨#[115, 117, 98]⟩, .int .i64 3, .bool true, .bool true, .bool true, .bool false, .int .i64 1, .str ⟨#[109, 117, 108]⟩, .int .i64 3, .bool true, .bool true, .bool true, .bool false, .int .i64 1, .str ⟨#[100, 105, 118]⟩, .int .i64 3, .bool true, .bool true, .bool true, .bool true, .int .i64 1, .str ⟨#[114, 101, 109]⟩, .int .i64 3, .bool true, .bool true, .bool true, .bool true, .int .i64 1, .str ⟨#[97, 110, 100]⟩, .int .i64 3, .bool true, .bool true, .bool true, .bool false, .int .i64 1, .str ⟨#[111, 114]⟩, .int .i64 3, .bool true, .bool true, .bool true, .bool false, .int .i64 1, .str ⟨#[120, 111, 114]⟩, .int .i64 3, .bool true, .bool true, .bool true, .bool false, .int .i64 1, .str ⟨#[115, 104, 108]⟩, .int .i64 3, .bool true, .bool true, .bool true, .bool false, .int .i64 1, .str ⟨#[115, 104, 114]⟩, .int .i64 3, .bool true, .bool true, .bool true, .bool false, .int .i64 1, .str ⟨#[115, 97, 114]⟩, .int .i64 3, .bool true, .bool true, .bool true, .bool false, .int .i64 1, .str ⟨#[101, 113]⟩, .int .i64 3, .bool true, .bool true, .bool true, .bool false, .int .i64 1, .str ⟨#[110, 101]⟩, .int .i64 3, .bool true, .bool true, .bool true, .bool false, .int .i64 1, .str ⟨#[108, 116]⟩, .int .i64 3, .bool true, .bool true, .bool true, .bool false, .int .i64 1, .str ⟨#[108, 101]⟩, .int .i64 3, .bool true, .bool true, .bool true, .bool false, .int .i64 1, .str ⟨#[108, 116, 117]⟩, .int .i64 3, .bool true, .bool true, .bool true, .bool false, .int .i64 1, .str ⟨#[97, 100, 100, 105]⟩, .int .i64 5, .bool true, .bool true, .bool false, .bool false, .int .i64 1, .str ⟨#[108, 100]⟩, .int .i64 7, .bool false, .bool true, .bool true, .bool true, .int .i64 1, .str ⟨#[115, 116]⟩, .int .i64 7, .bool true, .bool false, .bool true, .bool true, .int .i64 1, .str ⟨#[108, 100, 115]⟩, .int .i64 5, .bool false, .bool true, .bool false, .bool false, .int .i64 1, .str ⟨#[115, 116, 115]⟩, .int .i64 5, .bool true, .bool false, .bool false, .bool false, .int .i64 1] 37]
/-- what the variable internal/strconv.uint64pow10 points at -/
def tabG1 : Eng.AV := .fp [.int .u64 1, .int .u64 10, .int .u64 100, .int .u64 1000, .int .u64 10000, .int .u64 100000, .int .u64 1000000, .int .u64 10000000, .int .u64 100000000, .int .u64 1000000000, .int .u64 10000000000, .int .u64 100000000000, .int .u64 1000000000000, .int .u64 10000000000000, .int .u64 100000000000000, .int .u64 1000000000000000, .int .u64 10000000000000000, .int .u64 100000000000000000, .int .u64 1000000000000000000, .int .u64 10000000000000000000]
/-- what the variable math/bits.deBruijn32tab points at -/
def tabG2 : Eng.AV := .fp [.int .u8 0, .int .u8 1, .int .u8 28, .int .u8 2, .int .u8 29, .int .u8 14, .int .u8 24, .int .u8 3, .int .u8 30, .int .u8 22, .int .u8 20, .int .u8 15, .int .u8 25, .int .u8 17, .int .u8 4, .int .u8 8, .int .u8 31, .int .u8 27, .int .u8 13, .int .u8 23, .int .u8 21, .int .u8 19, .int .u8 16, .int .u8 7, .int .u8 26, .int .u8 12, .int .u8 18, .int .u8 6, .int .u8 11, .int .u8 5, .int .u8 10, .int .u8 9]
/-- what the variable math/bits.deBruijn64tab points at -/
def tabG3 : Eng.AV := .fp [.int .u8 0, .int .u8 1, .int .u8 56, .int .u8 2, .int .u8 57, .int .u8 49, .int .u8 28, .int .u8 3, .int .u8 61, .int .u8 58, .int .u8 42, .int .u8 50, .int .u8 38, .int .u8 29, .int .u8 17, .int .u8 4, .int .u8 62, .int .u8 47, .int .u8 59, .int .u8 36, .int .u8 45, .int .u8 43, .int .u8 51, .int .u8 22, .int .u8 53, .int .u8 39, .int .u8 33, .int .u8 30, .int .u8 24, .int .u8 18, .int .u8 12, .int .u8 5, .int .u8 63, .int .u8 55, .int .u8 48, .int .u8 27, .int .u8 60, .int .u8 41, .int .u8 37, .int .u8 16, .int .u8 46, .int .u8 35, .int .u8 44, .int .u8 21, .int .u8 52, .int .u8 32, .int .u8 23, .int .u8 11, .int .u8 54, .int .u8 26, .int .u8 40, .int .u8 15, .int .u8 34, .int .u8 20, .int .u8 31, .int .u8 10, .int .u8 25, .int .u8 14, .int .u8 19, .int .u8 9, .int .u8 13, .int .u8 8, .int .u8 7, .int .u8 6]
instance gl : Eng.Gl := ⟨fun g => bif g.beq 3 then some tabG3 else bif g.beq 2 then some tabG2 else bif g.beq 1 then some tabG1 else bif g.beq 0 then some tabG0 else none⟩

/-- the calls that are taken as functions -/
noncomputable def pol (f : FuncId) : Bool := f.beq 5 || f.beq 6 || f.beq 8 || f.beq 17 || f.beq 19 || f.beq 22 || f.beq 23 || f.beq 25 || f.beq 26 || f.beq 27 || f.beq 28 || f.beq 39 || f.beq 41 || f.beq 48 || f.beq 49 || f.beq 50 || f.beq 51 || f.beq 53 || f.beq 57 || f.beq 60 || f.beq 91 || f.beq 98 || f.beq 111 || f.beq 114 || f.beq 121 || f.beq 136 || f.beq 154 || f.beq 155 || f.beq 156 || f.beq 158 || f.beq 159 || f.beq 160 || f.beq 161 || f.beq 162 || f.beq 196 || f.beq 198 || f.beq 211 || f.beq 262 || f.beq 290 || f.beq 294 || f.beq 306 || f.beq 307 || f.beq 308 || f.beq 311 || f.beq 314 || f.beq 318 || f.beq 373 || f.beq 429 || f.beq 451 || f.beq 452 || f.beq 453 || f.beq 455 || f.beq 457 || f.beq 463

theorem noNum : Eng.NoNum Tryz.prog := @Eng.noNum_of gl (Eng.mxTab sp []) _ (by kernel_rfl)

theorem mixed : Tryz.prog.follows .mixedOrders = true := by kernel_rfl

/-- nothing is known yet -/
noncomputable def tab0 : List Eng.KE := []
theorem known0 : ∀ e ∈ tab0, Eng.Known Tryz.prog e := Eng.known_nil

end Go.Proofs.YtmanhjinplhfjaaGreatDoor.validateExamples
