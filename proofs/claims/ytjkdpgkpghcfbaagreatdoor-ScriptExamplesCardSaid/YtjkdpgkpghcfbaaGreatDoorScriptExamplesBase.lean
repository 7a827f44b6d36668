/-
  sort.Slice at no element or one: the library's contract, laid at this program. What every later text of this law needs.
-/
import Derived.Test.YtjkdpgkpghcfbaaGreatDoorProg
import Derived.Test.YtjkdpgkpghcfbaaGreatDoorEngMark
import Derived.Test.YtjkdpgkpghcfbaaGreatDoorEngLaid
import Derived.Shelf.GgSortFunc.Tiny
import Derived.KernelRfl
namespace Go.Proofs.YtjkdpgkpghcfbaaGreatDoor.scriptExamples
open Go.Shelf

def ren : Go.Shelf.Ren := ⟨fun | 6 => 348 | 10 => 440 | 11 => 441 | 12 => 442 | 13 => 443 | 14 => 444 | 24 => 518 | 25 => 519 | 26 => 520 | 27 => 521 | 28 => 522 | 29 => 523 | 30 => 524 | 31 => 525 | 32 => 526 | 33 => 527 | 34 => 546 | 35 => 547 | 36 => 548 | 37 => 549 | 38 => 550 | 39 => 570 | n => n, fun | 20 => 20 | 26 => 539 | 35 => 694 | 0 => 0 | 37 => 446 | 3 => 3 | 41 => 267 | 44 => 700 | 49 => 434 | 51 => 82 | 4 => 4 | 54 => 749 | 53 => 748 | 58 => 140 | 5 => 5 | 9 => 9 | 60 => 771 | 64 => 774 | 66 => 792 | 67 => 793 | 17 => 17 | 32 => 83 | 33 => 692 | 82 => 813 | 12 => 12 | 75 => 807 | 76 => 808 | 77 => 809 | 78 => 79 | 79 => 810 | 80 => 811 | n => n, fun | n => n⟩
theorem sortLaid : Go.Proofs.LaysGg.n6 Tryz.prog ren := {
  mixed := by kernel_rfl,
  f6 := Tryz.func348.trans (congrArg some (by kernel_rfl)),
  f10 := Tryz.func440.trans (congrArg some (by kernel_rfl)),
  f11 := Tryz.func441.trans (congrArg some (by kernel_rfl)),
  f12 := Tryz.func442.trans (congrArg some (by kernel_rfl)),
  f13 := Tryz.func443.trans (congrArg some (by kernel_rfl)),
  f14 := Tryz.func444.trans (congrArg some (by kernel_rfl)),
  f24 := Tryz.func518.trans (congrArg some (by kernel_rfl)),
  f25 := Tryz.func519.trans (congrArg some (by kernel_rfl)),
  f26 := Tryz.func520.trans (congrArg some (by kernel_rfl)),
  f27 := Tryz.func521.trans (congrArg some (by kernel_rfl)),
  f28 := Tryz.func522.trans (congrArg some (by kernel_rfl)),
  f29 := Tryz.func523.trans (congrArg some (by kernel_rfl)),
  f30 := Tryz.func524.trans (congrArg some (by kernel_rfl)),
  f31 := Tryz.func525.trans (congrArg some (by kernel_rfl)),
  f32 := Tryz.func526.trans (congrArg some (by kernel_rfl)),
  f33 := Tryz.func527.trans (congrArg some (by kernel_rfl)),
  f34 := Tryz.func546.trans (congrArg some (by kernel_rfl)),
  f35 := Tryz.func547.trans (congrArg some (by kernel_rfl)),
  f36 := Tryz.func548.trans (congrArg some (by kernel_rfl)),
  f37 := Tryz.func549.trans (congrArg some (by kernel_rfl)),
  f38 := Tryz.func550.trans (congrArg some (by kernel_rfl)),
  f39 := Tryz.func570.trans (congrArg some (by kernel_rfl)),
  t0 := Tryz.underlying0,
  a0 := Tryz.isAgg0,
  z0 := Tryz.sizeOf0,
  v0 := Tryz.zeroValue0,
  i0 := by kernel_rfl,
  t3 := Tryz.underlying3,
  a3 := Tryz.isAgg3,
  z3 := Tryz.sizeOf3,
  v3 := Tryz.zeroValue3,
  i3 := by kernel_rfl,
  t4 := Tryz.underlying4,
  a4 := Tryz.isAgg4,
  z4 := Tryz.sizeOf4,
  v4 := Tryz.zeroValue4,
  i4 := by kernel_rfl,
  t5 := Tryz.underlying5,
  a5 := Tryz.isAgg5,
  z5 := Tryz.sizeOf5,
  v5 := Tryz.zeroValue5,
  i5 := by kernel_rfl,
  t9 := Tryz.underlying9,
  a9 := Tryz.isAgg9,
  z9 := Tryz.sizeOf9,
  v9 := Tryz.zeroValue9,
  i9 := by kernel_rfl,
  t12 := Tryz.underlying12,
  a12 := Tryz.isAgg12,
  z12 := Tryz.sizeOf12,
  v12 := Tryz.zeroValue12,
  i12 := by kernel_rfl,
  t17 := Tryz.underlying17,
  a17 := Tryz.isAgg17,
  z17 := Tryz.sizeOf17,
  v17 := Tryz.zeroValue17,
  i17 := by kernel_rfl,
  t20 := Tryz.underlying20,
  a20 := Tryz.isAgg20,
  z20 := Tryz.sizeOf20,
  v20 := Tryz.zeroValue20,
  i20 := by kernel_rfl,
  t26 := Tryz.underlying539,
  a26 := Tryz.isAgg539,
  z26 := Tryz.sizeOf539,
  v26 := Tryz.zeroValue539,
  i26 := by kernel_rfl,
  t32 := Tryz.underlying83,
  a32 := Tryz.isAgg83,
  z32 := Tryz.sizeOf83,
  v32 := Tryz.zeroValue83,
  i32 := by kernel_rfl,
  t33 := Tryz.underlying692,
  a33 := Tryz.isAgg692,
  z33 := Tryz.sizeOf692,
  v33 := Tryz.zeroValue692,
  i33 := by kernel_rfl,
  t35 := Tryz.underlying694,
  a35 := Tryz.isAgg694,
  z35 := Tryz.sizeOf694,
  v35 := Tryz.zeroValue694,
  i35 := by kernel_rfl,
  t37 := Tryz.underlying446,
  a37 := Tryz.isAgg446,
  z37 := Tryz.sizeOf446,
  v37 := Tryz.zeroValue446,
  i37 := by kernel_rfl,
  t41 := Tryz.underlying267,
  a41 := Tryz.isAgg267,
  z41 := Tryz.sizeOf267,
  v41 := Tryz.zeroValue267,
  i41 := by kernel_rfl,
  t44 := Tryz.underlying700,
  a44 := Tryz.isAgg700,
  z44 := Tryz.sizeOf700,
  v44 := Tryz.zeroValue700,
  i44 := by kernel_rfl,
  t49 := Tryz.underlying434,
  a49 := Tryz.isAgg434,
  z49 := Tryz.sizeOf434,
  v49 := Tryz.zeroValue434,
  i49 := by kernel_rfl,
  t51 := Tryz.underlying82,
  a51 := Tryz.isAgg82,
  z51 := Tryz.sizeOf82,
  v51 := Tryz.zeroValue82,
  i51 := by kernel_rfl,
  t53 := Tryz.underlying748,
  a53 := Tryz.isAgg748,
  z53 := Tryz.sizeOf748,
  v53 := Tryz.zeroValue748,
  i53 := by kernel_rfl,
  t54 := Tryz.underlying749,
  a54 := Tryz.isAgg749,
  z54 := Tryz.sizeOf749,
  v54 := Tryz.zeroValue749,
  i54 := by kernel_rfl,
  t58 := Tryz.underlying140,
  a58 := Tryz.isAgg140,
  z58 := Tryz.sizeOf140,
  v58 := Tryz.zeroValue140,
  i58 := by kernel_rfl,
  t60 := Tryz.underlying771,
  a60 := Tryz.isAgg771,
  z60 := Tryz.sizeOf771,
  v60 := Tryz.zeroValue771,
  i60 := by kernel_rfl,
  t64 := Tryz.underlying774,
  a64 := Tryz.isAgg774,
  z64 := Tryz.sizeOf774,
  v64 := Tryz.zeroValue774,
  i64 := by kernel_rfl,
  t66 := Tryz.underlying792,
  a66 := Tryz.isAgg792,
  z66 := Tryz.sizeOf792,
  v66 := Tryz.zeroValue792,
  i66 := by kernel_rfl,
  t67 := Tryz.underlying793,
  a67 := Tryz.isAgg793,
  z67 := Tryz.sizeOf793,
  v67 := Tryz.zeroValue793,
  i67 := by kernel_rfl,
  t75 := Tryz.underlying807,
  a75 := Tryz.isAgg807,
  z75 := Tryz.sizeOf807,
  v75 := Tryz.zeroValue807,
  i75 := by kernel_rfl,
  t76 := Tryz.underlying808,
  a76 := Tryz.isAgg808,
  z76 := Tryz.sizeOf808,
  v76 := Tryz.zeroValue808,
  i76 := by kernel_rfl,
  t77 := Tryz.underlying809,
  a77 := Tryz.isAgg809,
  z77 := Tryz.sizeOf809,
  v77 := Tryz.zeroValue809,
  i77 := by kernel_rfl,
  t78 := Tryz.underlying79,
  a78 := Tryz.isAgg79,
  z78 := Tryz.sizeOf79,
  v78 := Tryz.zeroValue79,
  i78 := by kernel_rfl,
  t79 := Tryz.underlying810,
  a79 := Tryz.isAgg810,
  z79 := Tryz.sizeOf810,
  v79 := Tryz.zeroValue810,
  i79 := by kernel_rfl,
  t80 := Tryz.underlying811,
  a80 := Tryz.isAgg811,
  z80 := Tryz.sizeOf811,
  v80 := Tryz.zeroValue811,
  i80 := by kernel_rfl,
  t82 := Tryz.underlying813,
  a82 := Tryz.isAgg813,
  z82 := Tryz.sizeOf813,
  v82 := Tryz.zeroValue813,
  i82 := by kernel_rfl }

theorem bitLenA : ∀ (f x : Nat), x < 2 ^ f → x ≠ 0 → Lib.bitLenAux f x = x.log2 + 1
  | 0, x, h, h0 => absurd h (by simp; omega)
  | f + 1, x, h, h0 => by
    rw [Lib.bitLenAux, if_neg h0, Nat.log2_def]
    by_cases e : 2 ≤ x
    · rw [if_pos e, bitLenA f (x / 2) (by rw [Nat.pow_succ] at h; omega) (by omega)]
      omega
    · rw [if_neg e, show x / 2 = 0 from by omega]
      cases f <;> simp [Lib.bitLenAux]
theorem swK {n : Nat} (h : 2 ≤ n) (ie : TypeInfo) (ke : Nat) : Lib.swapperK n ie ke = Lib.swapperK 2 ie ke := by
  have c : (n == 0) = false := by simp; omega
  have d : (n == 1) = false := by simp; omega
  unfold Lib.swapperK
  rw [c, d]
  rfl

noncomputable def sT469 : TypeInfo := (Tryz.prog.info? 469).get (by kernel_rfl)
noncomputable def sE469 : TypeInfo := (Tryz.prog.info? 320).get (by kernel_rfl)
/-- sort.Slice has nothing to do at no element or one -/
theorem tiny469 (p : Option Addr) (n c : Nat) (g : Fn) (a b : Array Value) (w : World) (hn : n ≤ 1) :
    Calls Tryz.prog 348 #[.iface 469 (.slice p n c), .func g a b] w fun e w' => e = .returned (.tuple #[]) ∧ ∃ os : Array Obj, w' = { w with heap := w.heap ++ os } := by
  match n, hn with
  | 0, _ => exact Any.sort_Slice_tiny sortLaid 469 320 sT469 sE469 (by kernel_rfl) (by kernel_rfl) (by kernel_rfl) (by kernel_rfl) 25 (fun _ => by kernel_rfl) p 0 c (by decide) 509 (by kernel_rfl) g a b w
  | 1, _ => exact Any.sort_Slice_tiny sortLaid 469 320 sT469 sE469 (by kernel_rfl) (by kernel_rfl) (by kernel_rfl) (by kernel_rfl) 25 (fun _ => by kernel_rfl) p 1 c (by decide) 510 (by kernel_rfl) g a b w
theorem lit469 (n : Nat) (h : 2 ≤ n) : Lib.swapperK n sE469 25 = 9 := (swK h sE469 25).trans (by kernel_rfl)
/-- sort.Slice at two elements or more is pdqsort_func's work -/
theorem sorts469 (p : Option Addr) (n c : Nat) (g : Fn) (a b : Array Value) (w : World) (R : World → Prop) (h2 : 2 ≤ n) (hn : n < 4611686018427387904)
    (h : ∀ os : Array Obj, Calls Tryz.prog 444 #[.agg #[.func g a b, .func (.func 517) #[] #[.slice p n c, typeHandle Tryz.prog 320]], .int .i64 0, .int .i64 n, .int .i64 ((n.log2 + 1 : Nat) : Int)] { w with heap := w.heap ++ os } fun e w' => e = .returned (.tuple #[]) ∧ R w') :
    Calls Tryz.prog 348 #[.iface 469 (.slice p n c), .func g a b] w fun e w' => e = .returned (.tuple #[]) ∧ R w' := by
  refine Any.sort_Slice_of_pdq sortLaid 469 320 sT469 sE469 (by kernel_rfl) (by kernel_rfl) (by kernel_rfl) (by kernel_rfl) 25 (fun _ => by kernel_rfl) p n c hn 517 (by rw [lit469 n h2]; kernel_rfl) g a b w R ?_
  have hb : Lib.bitLen n = n.log2 + 1 := bitLenA 64 n (by omega) (by omega)
  have hB : sliceBound Tryz.prog 320 sE469 25 p n c = #[.slice p n c, typeHandle Tryz.prog 320] := by unfold sliceBound; rw [lit469 n h2]; rfl
  rw [hb, hB]
  unfold sliceWorld
  rw [Sort.alloc_eq_grow, Sort.alloc_eq_grow, Sort.grow_grow]
  exact h _

/-- what is special: sort.Slice, and the literals that swap -/
noncomputable def sp : Eng.Sp := { tn := fun f t => f.beq 348 && (t.beq 469), so := fun f t => bif f.beq 348 && t.beq 469 then some (444, 517, 320) else none, sw := fun f => f.beq 517, ty := fun t => t.beq 52 || t.beq 5, ar := fun t => t.beq 237, ex := fun f args => bif f.beq 44 then Eng.exCount args else bif f.beq 202 then Eng.exIndex args else bif f.beq 24 then Eng.exSame args else none }

theorem spOk : Eng.SpOk Tryz.prog sp := {
  tiny := fun f t h => by
    have h : (f.beq 348 && (t.beq 469)) = true := h
    simp only [Bool.and_eq_true, Eng.nbeq_iff] at h
    obtain ⟨rfl, rfl⟩ := h
    · exact ⟨⟨_, Tryz.func348, by kernel_rfl⟩, fun p n c g a b w hn => tiny469 p n c g a b w hn⟩
  sorts := fun f t q h => by
    have h : (bif f.beq 348 && t.beq 469 then some (444, 517, 320) else none) = some q := h
    cases hc469 : (f.beq 348 && t.beq 469) <;> rw [hc469] at h
    rotate_left
    · rw [cond_true] at h
      cases h
      simp only [Bool.and_eq_true, Eng.nbeq_iff] at hc469
      obtain ⟨rfl, rfl⟩ := hc469
      exact ⟨⟨_, Tryz.func348, by kernel_rfl⟩, fun p n c g a b w R h2 hn h => sorts469 p n c g a b w R h2 hn h⟩
    rw [cond_false] at h
    cases h
  swaps := fun s h => by
    have h : (s.beq 517) = true := h
    simp only [Eng.nbeq_iff] at h
    obtain rfl := h
    · exact ⟨false, fun args W => run_callFunc_extern Tryz.func517 (by kernel_rfl) (by kernel_rfl) (by kernel_rfl) (e := Extern.ReflectliteSwapper.swap false) (by kernel_rfl) args W⟩
  externs := fun f args v h => by
    have h : (bif f.beq 44 then Eng.exCount args else bif f.beq 202 then Eng.exIndex args else bif f.beq 24 then Eng.exSame args else none) = some v := h
    cases hx44 : f.beq 44 <;> rw [hx44] at h
    rotate_left
    · rw [cond_true] at h
      obtain rfl := Eng.nbeq_iff.1 hx44
      exact Eng.exCount_ok (fun args W => run_callFunc_extern Tryz.func44 (by kernel_rfl) (by kernel_rfl) (by kernel_rfl) (e := Extern.BytealgCount.count) (by kernel_rfl) args W) args v h
    rw [cond_false] at h
    cases hx202 : f.beq 202 <;> rw [hx202] at h
    rotate_left
    · rw [cond_true] at h
      obtain rfl := Eng.nbeq_iff.1 hx202
      exact Eng.exIndex_ok (fun args W => run_callFunc_extern Tryz.func202 (by kernel_rfl) (by kernel_rfl) (by kernel_rfl) (e := Extern.BytealgIndexByte.indexByte) (by kernel_rfl) args W) args v h
    rw [cond_false] at h
    cases hx24 : f.beq 24 <;> rw [hx24] at h
    rotate_left
    · rw [cond_true] at h
      obtain rfl := Eng.nbeq_iff.1 hx24
      exact Eng.exSame_ok (fun args W => run_callFunc_extern Tryz.func24 (by kernel_rfl) (by kernel_rfl) (by kernel_rfl) (e := Extern.AbiNoEscape.same) (by kernel_rfl) args W) args v h
    rw [cond_false] at h
    cases h }

/-- what the variable internal/strconv.uint64pow10 points at -/
def tabG4 : Eng.AV := .fp [.int .u64 1, .int .u64 10, .int .u64 100, .int .u64 1000, .int .u64 10000, .int .u64 100000, .int .u64 1000000, .int .u64 10000000, .int .u64 100000000, .int .u64 1000000000, .int .u64 10000000000, .int .u64 100000000000, .int .u64 1000000000000, .int .u64 10000000000000, .int .u64 100000000000000, .int .u64 1000000000000000, .int .u64 10000000000000000, .int .u64 100000000000000000, .int .u64 1000000000000000000, .int .u64 10000000000000000000]
/-- what the variable math/bits.deBruijn32tab points at -/
def tabG5 : Eng.AV := .fp [.int .u8 0, .int .u8 1, .int .u8 28, .int .u8 2, .int .u8 29, .int .u8 14, .int .u8 24, .int .u8 3, .int .u8 30, .int .u8 22, .int .u8 20, .int .u8 15, .int .u8 25, .int .u8 17, .int .u8 4, .int .u8 8, .int .u8 31, .int .u8 27, .int .u8 13, .int .u8 23, .int .u8 21, .int .u8 19, .int .u8 16, .int .u8 7, .int .u8 26, .int .u8 12, .int .u8 18, .int .u8 6, .int .u8 11, .int .u8 5, .int .u8 10, .int .u8 9]
/-- what the variable math/bits.deBruijn64tab points at -/
def tabG6 : Eng.AV := .fp [.int .u8 0, .int .u8 1, .int .u8 56, .int .u8 2, .int .u8 57, .int .u8 49, .int .u8 28, .int .u8 3, .int .u8 61, .int .u8 58, .int .u8 42, .int .u8 50, .int .u8 38, .int .u8 29, .int .u8 17, .int .u8 4, .int .u8 62, .int .u8 47, .int .u8 59, .int .u8 36, .int .u8 45, .int .u8 43, .int .u8 51, .int .u8 22, .int .u8 53, .int .u8 39, .int .u8 33, .int .u8 30, .int .u8 24, .int .u8 18, .int .u8 12, .int .u8 5, .int .u8 63, .int .u8 55, .int .u8 48, .int .u8 27, .int .u8 60, .int .u8 41, .int .u8 37, .int .u8 16, .int .u8 46, .int .u8 35, .int .u8 44, .int .u8 21, .int .u8 52, .int .u8 32, .int .u8 23, .int .u8 11, .int .u8 54, .int .u8 26, .int .u8 40, .int .u8 15, .int .u8 34, .int .u8 20, .int .u8 31, .int .u8 10, .int .u8 25, .int .u8 14, .int .u8 19, .int .u8 9, .int .u8 13, .int .u8 8, .int .u8 7, .int .u8 6]
/-- what the variable fulling/machine.table points at -/
def tabG3 : Eng.AV := .fp [.fs [.str ⟨#[110, 111, 112]⟩, .int .i64 1, .bool false, .bool false, .bool false, .bool false, .int .i64 1, .str ⟨#[114, 101, 116]⟩, .int .i64 1, .bool false, .bool false, .bool false, .bool false, .int .i64 1, .str ⟨#[116, 105, 99, 107]⟩, .int .i64 1, .bool false, .bool false, .bool false, .bool false, .int .i64 1, .str ⟨#[116, 114, 97, 112]⟩, .int .i64 8, .bool false, .bool false, .bool false, .bool true, .int .i64 1, .str ⟨#[106, 109, 112]⟩, .int .i64 8, .bool false, .bool false, .bool false, .bool false, .int .i64 1, .str ⟨#[99, 97, 108, 108]⟩, .int .i64 5, .bool false, .bool false, .bool false, .bool false, .int .i64 1, .str ⟨#[106, 122]⟩, .int .i64 5, .bool true, .bool false, .bool false, .bool false, .int .i64 1, .str ⟨#[106, 110, 122]⟩, .int .i64 5, .bool true, .bool false, .bool false, .bool false, .int .i64 1, .str ⟨#[111, 117, 116]⟩, .int .i64 2, .bool true, .bool false, .bool false, .bool false, .int .i64 1, .str ⟨#[109, 111, 118]⟩, .int .i64 3, .bool false, .bool true, .bool true, .bool false, .int .i64 1, .str ⟨#[99, 109, 111, 118, 122]⟩, .int .i64 4, .bool true, .bool true, .bool true, .bool false, .int .i64 1, .str ⟨#[99, 109, 111, 118, 110, 122]⟩, .int .i64 4, .bool true, .bool true, .bool true, .bool false, .int .i64 1, .str ⟨#[108, 100, 105]⟩, .int .i64 5, .bool false, .bool true, .bool false, .bool false, .int .i64 1, .str ⟨#[108, 100, 99]⟩, .int .i64 6, .bool false, .bool true, .bool false, .bool false, .int .i64 3, .str ⟨#[110, 101, 103]⟩, .int .i64 2, .bool true, .bool true, .bool false, .bool false, .int .i64 1, .str ⟨#[110, 111, 116]⟩, .int .i64 2, .bool true, .bool true, .bool false, .bool false, .int .i64 1, .str ⟨#[97, 100, 100]⟩, .int .i64 3, .bool true, .bool true, .bool true, .bool false, .int .i64 1, .str ⟨#[115, 117, 98]⟩, .int .i64 3, .bool true, .bool true, .bool true, .bool false, .int .i64 1, .str ⟨#[109, 117, 108]⟩, .int .i64 3, .bool true, .bool true, .bool true, .bool false, .int .i64 1, .str ⟨#[100, 105, 118]⟩, .int .i64 3, .bool true, .bool true, .bool true, .bool true, .int .i64 1, .str ⟨#[114, 101, 109]⟩, .int .i64 3, .bool true, .bool true, .bool true, .bool true, .int .i64 1, .str ⟨#[97, 110, 100]⟩, .int .i64 3, .bool true, .bool true, .bool true, .bool false, .int .i64 1, .str ⟨#[111, 114]⟩, .int .i64 3, .bool true, .bool true, .bool true, .bool false, .int .i64 1, .str ⟨#[120, 111, 114]⟩, .int .i64 3, .bool true, .bool true, .bool true, .bool false, .int .i64 1, .str ⟨#[115, 104, 108]⟩, .int .i64 3, .bool true, .bool true, .bool true, .bool false, .int .i64 1, .str ⟨#[115, 104, 114]⟩, .int .i64 3, .bool true, .bool true, .bool true, .bool false, .int .i64 1, .str ⟨#[115, 97, 114]⟩, .int .i64 3, .bool true, .bool true, .bool true, .bool false, .int .i64 1, .str ⟨#[101, 113]⟩, .int .i64 3, .bool true, .bool true, .bool true, .bool false, .int .i64 1, .str ⟨#[110, 101]⟩, .int .i64 3, .bool true, .bool true, .bool true, .bool false, .int .i64 1, .str ⟨#[108, 116]⟩, .int .i64 3, .bool true, .bool true, .bool true, .bool false, .int .i64 1, .str ⟨#[108, 101]⟩, .int .i64 3, .bool true, .bool true, .bool true, .bool false, .int .i64 1, .str ⟨#[108, 116, 117]⟩, .int .i64 3, .bool true, .bool true, .bool true, .bool false, .int .i64 1, .str ⟨#[97, 100, 100, 105]⟩, .int .i64 5, .bool true, .bool true, .bool false, .bool false, .int .i64 1, .str ⟨#[108, 100]⟩, .int .i64 7, .bool false, .bool true, .bool true, .bool true, .int .i64 1, .str ⟨#[115, 116]⟩, .int .i64 7, .bool true, .bool false, .bool true, .bool true, .int .i64 1, .str ⟨#[108, 100, 115]⟩, .int .i64 5, .bool false, .bool true, .bool false, .bool false, .int .i64 1, .str ⟨#[115, 116, 115]⟩, .int .i64 5, .bool true, .bool false, .bool false, .bool false, .int .i64 1] 37]
instance gl : Eng.Gl := ⟨fun g => bif g.beq 3 then some tabG3 else bif g.beq 6 then some tabG6 else bif g.beq 5 then some tabG5 else bif g.beq 4 then some tabG4 else none⟩

/-- the calls that are taken as functions -/
noncomputable def pol (f : FuncId) : Bool := f.beq 6 || f.beq 13 || f.beq 15 || f.beq 16 || f.beq 18 || f.beq 25 || f.beq 27 || f.beq 28 || f.beq 29 || f.beq 41 || f.beq 62 || f.beq 68 || f.beq 69 || f.beq 103 || f.beq 116 || f.beq 199 || f.beq 200 || f.beq 344

theorem noNum : Eng.NoNum Tryz.prog := @Eng.noNum_of gl (Eng.mxTab sp []) _ (by kernel_rfl)

theorem mixed : Tryz.prog.follows .mixedOrders = true := by kernel_rfl

/-- nothing is known yet -/
noncomputable def tab0 : List Eng.KE := []
theorem known0 : ∀ e ∈ tab0, Eng.Known Tryz.prog e := Eng.known_nil

end Go.Proofs.YtjkdpgkpghcfbaaGreatDoor.scriptExamples
