/-
  sort.Slice at no element or one: the library's contract, laid at this program. What every later text of this law needs.
-/
import Derived.Test.YtnjcjcdmeomegaaGreatDoorRows
import Derived.Test.YtnjcjcdmeomegaaGreatDoorEngMark
import Derived.Test.YtnjcjcdmeomegaaGreatDoorEngLaid
import Derived.Test.YtnjcjcdmeomegaaGreatDoorCards
import Derived.Shelf.GgSortFunc.Tiny
import Derived.KernelRfl
namespace Go.Proofs.YtnjcjcdmeomegaaGreatDoor.compilerExamples
open Go.Shelf

def ren : Go.Shelf.Ren := ⟨fun | 6 => 312 | 10 => 405 | 11 => 406 | 12 => 407 | 13 => 408 | 14 => 409 | 24 => 484 | 25 => 485 | 26 => 486 | 27 => 487 | 28 => 488 | 29 => 489 | 30 => 490 | 31 => 491 | 32 => 492 | 33 => 493 | 34 => 512 | 35 => 513 | 36 => 514 | 37 => 515 | 38 => 516 | 39 => 536 | n => n, fun | 20 => 20 | 26 => 526 | 35 => 645 | 0 => 0 | 37 => 393 | 3 => 3 | 41 => 417 | 44 => 651 | 49 => 398 | 51 => 272 | 4 => 4 | 54 => 702 | 53 => 701 | 58 => 253 | 5 => 5 | 9 => 9 | 60 => 724 | 64 => 727 | 66 => 745 | 67 => 746 | 17 => 17 | 32 => 642 | 33 => 643 | 82 => 766 | 12 => 12 | 75 => 760 | 76 => 761 | 77 => 762 | 78 => 656 | 79 => 763 | 80 => 764 | n => n, fun | n => n⟩
theorem sortLaid : Go.Proofs.LaysGg.n6 Tryz.prog ren := {
  mixed := by kernel_rfl,
  f6 := Tryz.func312.trans (congrArg some (by kernel_rfl)),
  f10 := Tryz.func405.trans (congrArg some (by kernel_rfl)),
  f11 := Tryz.func406.trans (congrArg some (by kernel_rfl)),
  f12 := Tryz.func407.trans (congrArg some (by kernel_rfl)),
  f13 := Tryz.func408.trans (congrArg some (by kernel_rfl)),
  f14 := Tryz.func409.trans (congrArg some (by kernel_rfl)),
  f24 := Tryz.func484.trans (congrArg some (by kernel_rfl)),
  f25 := Tryz.func485.trans (congrArg some (by kernel_rfl)),
  f26 := Tryz.func486.trans (congrArg some (by kernel_rfl)),
  f27 := Tryz.func487.trans (congrArg some (by kernel_rfl)),
  f28 := Tryz.func488.trans (congrArg some (by kernel_rfl)),
  f29 := Tryz.func489.trans (congrArg some (by kernel_rfl)),
  f30 := Tryz.func490.trans (congrArg some (by kernel_rfl)),
  f31 := Tryz.func491.trans (congrArg some (by kernel_rfl)),
  f32 := Tryz.func492.trans (congrArg some (by kernel_rfl)),
  f33 := Tryz.func493.trans (congrArg some (by kernel_rfl)),
  f34 := Tryz.func512.trans (congrArg some (by kernel_rfl)),
  f35 := Tryz.func513.trans (congrArg some (by kernel_rfl)),
  f36 := Tryz.func514.trans (congrArg some (by kernel_rfl)),
  f37 := Tryz.func515.trans (congrArg some (by kernel_rfl)),
  f38 := Tryz.func516.trans (congrArg some (by kernel_rfl)),
  f39 := Tryz.func536.trans (congrArg some (by kernel_rfl)),
  t0 := Tryz.underlying0,
  a0 := Tryz.isAgg0,
  z0 := Tryz.sizeOf0,
  v0 := Tryz.zeroValue0,
  i0 := by kernel_rfl,
  t3 := Tryz.underlying3,
  a3 := Tryz.isAgg3,
  z3 := Tryz.sizeOf3,
  v3 := Tryz.zeroValue3,
  i3 := by kernel_rfl,
  t4 := Tryz.underlying4,
  a4 := Tryz.isAgg4,
  z4 := Tryz.sizeOf4,
  v4 := Tryz.zeroValue4,
  i4 := by kernel_rfl,
  t5 := Tryz.underlying5,
  a5 := Tryz.isAgg5,
  z5 := Tryz.sizeOf5,
  v5 := Tryz.zeroValue5,
  i5 := by kernel_rfl,
  t9 := Tryz.underlying9,
  a9 := Tryz.isAgg9,
  z9 := Tryz.sizeOf9,
  v9 := Tryz.zeroValue9,
  i9 := by kernel_rfl,
  t12 := Tryz.underlying12,
  a12 := Tryz.isAgg12,
  z12 := Tryz.sizeOf12,
  v12 := Tryz.zeroValue12,
  i12 := by kernel_rfl,
  t17 := Tryz.underlying17,
  a17 := Tryz.isAgg17,
  z17 := Tryz.sizeOf17,
  v17 := Tryz.zeroValue17,
  i17 := by kernel_rfl,
  t20 := Tryz.underlying20,
  a20 := Tryz.isAgg20,
  z20 := Tryz.sizeOf20,
  v20 := Tryz.zeroValue20,
  i20 := by kernel_rfl,
  t26 := Tryz.underlying526,
  a26 := Tryz.isAgg526,
  z26 := Tryz.sizeOf526,
  v26 := Tryz.zeroValue526,
  i26 := by kernel_rfl,
  t32 := Tryz.underlying642,
  a32 := Tryz.isAgg642,
  z32 := Tryz.sizeOf642,
  v32 := Tryz.zeroValue642,
  i32 := by kernel_rfl,
  t33 := Tryz.underlying643,
  a33 := Tryz.isAgg643,
  z33 := Tryz.sizeOf643,
  v33 := Tryz.zeroValue643,
  i33 := by kernel_rfl,
  t35 := Tryz.underlying645,
  a35 := Tryz.isAgg645,
  z35 := Tryz.sizeOf645,
  v35 := Tryz.zeroValue645,
  i35 := by kernel_rfl,
  t37 := Tryz.underlying393,
  a37 := Tryz.isAgg393,
  z37 := Tryz.sizeOf393,
  v37 := Tryz.zeroValue393,
  i37 := by kernel_rfl,
  t41 := Tryz.underlying417,
  a41 := Tryz.isAgg417,
  z41 := Tryz.sizeOf417,
  v41 := Tryz.zeroValue417,
  i41 := by kernel_rfl,
  t44 := Tryz.underlying651,
  a44 := Tryz.isAgg651,
  z44 := Tryz.sizeOf651,
  v44 := Tryz.zeroValue651,
  i44 := by kernel_rfl,
  t49 := Tryz.underlying398,
  a49 := Tryz.isAgg398,
  z49 := Tryz.sizeOf398,
  v49 := Tryz.zeroValue398,
  i49 := by kernel_rfl,
  t51 := Tryz.underlying272,
  a51 := Tryz.isAgg272,
  z51 := Tryz.sizeOf272,
  v51 := Tryz.zeroValue272,
  i51 := by kernel_rfl,
  t53 := Tryz.underlying701,
  a53 := Tryz.isAgg701,
  z53 := Tryz.sizeOf701,
  v53 := Tryz.zeroValue701,
  i53 := by kernel_rfl,
  t54 := Tryz.underlying702,
  a54 := Tryz.isAgg702,
  z54 := Tryz.sizeOf702,
  v54 := Tryz.zeroValue702,
  i54 := by kernel_rfl,
  t58 := Tryz.underlying253,
  a58 := Tryz.isAgg253,
  z58 := Tryz.sizeOf253,
  v58 := Tryz.zeroValue253,
  i58 := by kernel_rfl,
  t60 := Tryz.underlying724,
  a60 := Tryz.isAgg724,
  z60 := Tryz.sizeOf724,
  v60 := Tryz.zeroValue724,
  i60 := by kernel_rfl,
  t64 := Tryz.underlying727,
  a64 := Tryz.isAgg727,
  z64 := Tryz.sizeOf727,
  v64 := Tryz.zeroValue727,
  i64 := by kernel_rfl,
  t66 := Tryz.underlying745,
  a66 := Tryz.isAgg745,
  z66 := Tryz.sizeOf745,
  v66 := Tryz.zeroValue745,
  i66 := by kernel_rfl,
  t67 := Tryz.underlying746,
  a67 := Tryz.isAgg746,
  z67 := Tryz.sizeOf746,
  v67 := Tryz.zeroValue746,
  i67 := by kernel_rfl,
  t75 := Tryz.underlying760,
  a75 := Tryz.isAgg760,
  z75 := Tryz.sizeOf760,
  v75 := Tryz.zeroValue760,
  i75 := by kernel_rfl,
  t76 := Tryz.underlying761,
  a76 := Tryz.isAgg761,
  z76 := Tryz.sizeOf761,
  v76 := Tryz.zeroValue761,
  i76 := by kernel_rfl,
  t77 := Tryz.underlying762,
  a77 := Tryz.isAgg762,
  z77 := Tryz.sizeOf762,
  v77 := Tryz.zeroValue762,
  i77 := by kernel_rfl,
  t78 := Tryz.underlying656,
  a78 := Tryz.isAgg656,
  z78 := Tryz.sizeOf656,
  v78 := Tryz.zeroValue656,
  i78 := by kernel_rfl,
  t79 := Tryz.underlying763,
  a79 := Tryz.isAgg763,
  z79 := Tryz.sizeOf763,
  v79 := Tryz.zeroValue763,
  i79 := by kernel_rfl,
  t80 := Tryz.underlying764,
  a80 := Tryz.isAgg764,
  z80 := Tryz.sizeOf764,
  v80 := Tryz.zeroValue764,
  i80 := by kernel_rfl,
  t82 := Tryz.underlying766,
  a82 := Tryz.isAgg766,
  z82 := Tryz.sizeOf766,
  v82 := Tryz.zeroValue766,
  i82 := by kernel_rfl }

theorem bitLenA : ∀ (f x : Nat), x < 2 ^ f → x ≠ 0 → Lib.bitLenAux f x = x.log2 + 1
  | 0, x, h, h0 => absurd h (by simp; omega)
  | f + 1, x, h, h0 => by
    rw [Lib.bitLenAux, if_neg h0, Nat.log2_def]
    by_cases e : 2 ≤ x
    · rw [if_pos e, bitLenA f (x / 2) (by rw [Nat.pow_succ] at h; omega) (by omega)]
      omega
    · rw [if_neg e, show x / 2 = 0 from by omega]
      cases f <;> simp [Lib.bitLenAux]
theorem swK {n : Nat} (h : 2 ≤ n) (ie : TypeInfo) (ke : Nat) : Lib.swapperK n ie ke = Lib.swapperK 2 ie ke := by
  have c : (n == 0) = false := by simp; omega
  have d : (n == 1) = false := by simp; omega
  unfold Lib.swapperK
  rw [c, d]
  rfl

noncomputable def sT418 : TypeInfo := (Tryz.prog.info? 418).get (by kernel_rfl)
noncomputable def sE418 : TypeInfo := (Tryz.prog.info? 277).get (by kernel_rfl)
/-- sort.Slice has nothing to do at no element or one -/
theorem tiny418 (p : Option Addr) (n c : Nat) (g : Fn) (a b : Array Value) (w : World) (hn : n ≤ 1) :
    Calls Tryz.prog 312 #[.iface 418 (.slice p n c), .func g a b] w fun e w' => e = .returned (.tuple #[]) ∧ ∃ os : Array Obj, w' = { w with heap := w.heap ++ os } := by
  match n, hn with
  | 0, _ => exact Any.sort_Slice_tiny sortLaid 418 277 sT418 sE418 (by kernel_rfl) (by kernel_rfl) (by kernel_rfl) (by kernel_rfl) 25 (fun _ => by kernel_rfl) p 0 c (by decide) 475 (by kernel_rfl) g a b w
  | 1, _ => exact Any.sort_Slice_tiny sortLaid 418 277 sT418 sE418 (by kernel_rfl) (by kernel_rfl) (by kernel_rfl) (by kernel_rfl) 25 (fun _ => by kernel_rfl) p 1 c (by decide) 476 (by kernel_rfl) g a b w
theorem lit418 (n : Nat) (h : 2 ≤ n) : Lib.swapperK n sE418 25 = 9 := (swK h sE418 25).trans (by kernel_rfl)
/-- sort.Slice at two elements or more is pdqsort_func's work -/
theorem sorts418 (p : Option Addr) (n c : Nat) (g : Fn) (a b : Array Value) (w : World) (R : World → Prop) (h2 : 2 ≤ n) (hn : n < 4611686018427387904)
    (h : ∀ os : Array Obj, Calls Tryz.prog 409 #[.agg #[.func g a b, .func (.func 483) #[] #[.slice p n c, typeHandle Tryz.prog 277]], .int .i64 0, .int .i64 n, .int .i64 ((n.log2 + 1 : Nat) : Int)] { w with heap := w.heap ++ os } fun e w' => e = .returned (.tuple #[]) ∧ R w') :
    Calls Tryz.prog 312 #[.iface 418 (.slice p n c), .func g a b] w fun e w' => e = .returned (.tuple #[]) ∧ R w' := by
  refine Any.sort_Slice_of_pdq sortLaid 418 277 sT418 sE418 (by kernel_rfl) (by kernel_rfl) (by kernel_rfl) (by kernel_rfl) 25 (fun _ => by kernel_rfl) p n c hn 483 (by rw [lit418 n h2]; kernel_rfl) g a b w R ?_
  have hb : Lib.bitLen n = n.log2 + 1 := bitLenA 64 n (by omega) (by omega)
  have hB : sliceBound Tryz.prog 277 sE418 25 p n c = #[.slice p n c, typeHandle Tryz.prog 277] := by unfold sliceBound; rw [lit418 n h2]; rfl
  rw [hb, hB]
  unfold sliceWorld
  rw [Sort.alloc_eq_grow, Sort.alloc_eq_grow, Sort.grow_grow]
  exact h _

noncomputable def sT542 : TypeInfo := (Tryz.prog.info? 542).get (by kernel_rfl)
noncomputable def sE542 : TypeInfo := (Tryz.prog.info? 106).get (by kernel_rfl)
/-- sort.Slice has nothing to do at no element or one -/
theorem tiny542 (p : Option Addr) (n c : Nat) (g : Fn) (a b : Array Value) (w : World) (hn : n ≤ 1) :
    Calls Tryz.prog 312 #[.iface 542 (.slice p n c), .func g a b] w fun e w' => e = .returned (.tuple #[]) ∧ ∃ os : Array Obj, w' = { w with heap := w.heap ++ os } := by
  match n, hn with
  | 0, _ => exact Any.sort_Slice_tiny sortLaid 542 106 sT542 sE542 (by kernel_rfl) (by kernel_rfl) (by kernel_rfl) (by kernel_rfl) 23 (fun _ => by kernel_rfl) p 0 c (by decide) 475 (by kernel_rfl) g a b w
  | 1, _ => exact Any.sort_Slice_tiny sortLaid 542 106 sT542 sE542 (by kernel_rfl) (by kernel_rfl) (by kernel_rfl) (by kernel_rfl) 23 (fun _ => by kernel_rfl) p 1 c (by decide) 476 (by kernel_rfl) g a b w
theorem lit542 (n : Nat) (h : 2 ≤ n) : Lib.swapperK n sE542 23 = 9 := (swK h sE542 23).trans (by kernel_rfl)
/-- sort.Slice at two elements or more is pdqsort_func's work -/
theorem sorts542 (p : Option Addr) (n c : Nat) (g : Fn) (a b : Array Value) (w : World) (R : World → Prop) (h2 : 2 ≤ n) (hn : n < 4611686018427387904)
    (h : ∀ os : Array Obj, Calls Tryz.prog 409 #[.agg #[.func g a b, .func (.func 483) #[] #[.slice p n c, typeHandle Tryz.prog 106]], .int .i64 0, .int .i64 n, .int .i64 ((n.log2 + 1 : Nat) : Int)] { w with heap := w.heap ++ os } fun e w' => e = .returned (.tuple #[]) ∧ R w') :
    Calls Tryz.prog 312 #[.iface 542 (.slice p n c), .func g a b] w fun e w' => e = .returned (.tuple #[]) ∧ R w' := by
  refine Any.sort_Slice_of_pdq sortLaid 542 106 sT542 sE542 (by kernel_rfl) (by kernel_rfl) (by kernel_rfl) (by kernel_rfl) 23 (fun _ => by kernel_rfl) p n c hn 483 (by rw [lit542 n h2]; kernel_rfl) g a b w R ?_
  have hb : Lib.bitLen n = n.log2 + 1 := bitLenA 64 n (by omega) (by omega)
  have hB : sliceBound Tryz.prog 106 sE542 23 p n c = #[.slice p n c, typeHandle Tryz.prog 106] := by unfold sliceBound; rw [lit542 n h2]; rfl
  rw [hb, hB]
  unfold sliceWorld
  rw [Sort.alloc_eq_grow, Sort.alloc_eq_grow, Sort.grow_grow]
  exact h _

/-- what is special: sort.Slice, and the literals that swap -/
noncomputable def sp : Eng.Sp := { tn := fun f t => f.beq 312 && (t.beq 418 || t.beq 542), so := fun f t => bif f.beq 312 && t.beq 418 then some (409, 483, 277) else bif f.beq 312 && t.beq 542 then some (409, 483, 106) else none, sw := fun f => f.beq 483 }

theorem spOk : Eng.SpOk Tryz.prog sp := {
  tiny := fun f t h => by
    have h : (f.beq 312 && (t.beq 418 || t.beq 542)) = true := h
    simp only [Bool.or_eq_true, Bool.and_eq_true, Eng.nbeq_iff] at h
    obtain ⟨rfl, rfl | rfl⟩ := h
    · exact ⟨⟨_, Tryz.func312, by kernel_rfl⟩, fun p n c g a b w hn => tiny418 p n c g a b w hn⟩
    · exact ⟨⟨_, Tryz.func312, by kernel_rfl⟩, fun p n c g a b w hn => tiny542 p n c g a b w hn⟩
  sorts := fun f t q h => by
    have h : (bif f.beq 312 && t.beq 418 then some (409, 483, 277) else bif f.beq 312 && t.beq 542 then some (409, 483, 106) else none) = some q := h
    cases hc418 : (f.beq 312 && t.beq 418) <;> rw [hc418] at h
    rotate_left
    · rw [cond_true] at h
      cases h
      simp only [Bool.and_eq_true, Eng.nbeq_iff] at hc418
      obtain ⟨rfl, rfl⟩ := hc418
      exact ⟨⟨_, Tryz.func312, by kernel_rfl⟩, fun p n c g a b w R h2 hn h => sorts418 p n c g a b w R h2 hn h⟩
    rw [cond_false] at h
    cases hc542 : (f.beq 312 && t.beq 542) <;> rw [hc542] at h
    rotate_left
    · rw [cond_true] at h
      cases h
      simp only [Bool.and_eq_true, Eng.nbeq_iff] at hc542
      obtain ⟨rfl, rfl⟩ := hc542
      exact ⟨⟨_, Tryz.func312, by kernel_rfl⟩, fun p n c g a b w R h2 hn h => sorts542 p n c g a b w R h2 hn h⟩
    rw [cond_false] at h
    cases h
  swaps := fun s h => by
    have h : (s.beq 483) = true := h
    simp only [Eng.nbeq_iff] at h
    obtain rfl := h
    · exact ⟨false, fun args W => run_callFunc_extern Tryz.func483 (by kernel_rfl) (by kernel_rfl) (by kernel_rfl) (e := Extern.ReflectliteSwapper.swap false) (by kernel_rfl) args W⟩
  externs := fun _ _ _ h => by cases h }

/-- what the variable internal/strconv.uint64pow10 points at -/
def tabG1 : Eng.AV := .fp [.int .u64 1, .int .u64 10, .int .u64 100, .int .u64 1000, .int .u64 10000, .int .u64 100000, .int .u64 1000000, .int .u64 10000000, .int .u64 100000000, .int .u64 1000000000, .int .u64 10000000000, .int .u64 100000000000, .int .u64 1000000000000, .int .u64 10000000000000, .int .u64 100000000000000, .int .u64 1000000000000000, .int .u64 10000000000000000, .int .u64 100000000000000000, .int .u64 1000000000000000000, .int .u64 10000000000000000000]
/-- what the variable math/bits.deBruijn32tab points at -/
def tabG2 : Eng.AV := .fp [.int .u8 0, .int .u8 1, .int .u8 28, .int .u8 2, .int .u8 29, .int .u8 14, .int .u8 24, .int .u8 3, .int .u8 30, .int .u8 22, .int .u8 20, .int .u8 15, .int .u8 25, .int .u8 17, .int .u8 4, .int .u8 8, .int .u8 31, .int .u8 27, .int .u8 13, .int .u8 23, .int .u8 21, .int .u8 19, .int .u8 16, .int .u8 7, .int .u8 26, .int .u8 12, .int .u8 18, .int .u8 6, .int .u8 11, .int .u8 5, .int .u8 10, .int .u8 9]
/-- what the variable math/bits.deBruijn64tab points at -/
def tabG3 : Eng.AV := .fp [.int .u8 0, .int .u8 1, .int .u8 56, .int .u8 2, .int .u8 57, .int .u8 49, .int .u8 28, .int .u8 3, .int .u8 61, .int .u8 58, .int .u8 42, .int .u8 50, .int .u8 38, .int .u8 29, .int .u8 17, .int .u8 4, .int .u8 62, .int .u8 47, .int .u8 59, .int .u8 36, .int .u8 45, .int .u8 43, .int .u8 51, .int .u8 22, .int .u8 53, .int .u8 39, .int .u8 33, .int .u8 30, .int .u8 24, .int .u8 18, .int .u8 12, .int .u8 5, .int .u8 63, .int .u8 55, .int .u8 48, .int .u8 27, .int .u8 60, .int .u8 41, .int .u8 37, .int .u8 16, .int .u8 46, .int .u8 35, .int .u8 44, .int .u8 21, .int .u8 52, .int .u8 32, .int .u8 23, .int .u8 11, .int .u8 54, .int .u8 26, .int .u8 40, .int .u8 15, .int .u8 34, .int .u8 20, .int .u8 31, .int .u8 10, .int .u8 25, .int .u8 14, .int .u8 19, .int .u8 9, .int .u8 13, .int .u8 8, .int .u8 7, .int .u8 6]
/-- what the variable fulling/machine.table points at -/
def tabG0 : Eng.AV := .fp [.fs [.str ⟨#[110, 111, 112]⟩, .int .i64 1, .bool false, .bool false, .bool false, .bool false, .int .i64 1, .str ⟨#[114, 101, 116]⟩, .int .i64 1, .bool false, .bool false, .bool false, .bool false, .int .i64 1, .str ⟨#[116, 105, 99, 107]⟩, .int .i64 1, .bool false, .bool false, .bool false, .bool false, .int .i64 1, .str ⟨#[116, 114, 97, 112]⟩, .int .i64 8, .bool false, .bool false, .bool false, .bool true, .int .i64 1, .str ⟨#[106, 109, 112]⟩, .int .i64 8, .bool false, .bool false, .bool false, .bool false, .int .i64 1, .str ⟨#[99, 97, 108, 108]⟩, .int .i64 5, .bool false, .bool false, .bool false, .bool false, .int .i64 1, .str ⟨#[106, 122]⟩, .int .i64 5, .bool true, .bool false, .bool false, .bool false, .int .i64 1, .str ⟨#[106, 110, 122]⟩, .int .i64 5, .bool true, .bool false, .bool false, .bool false, .int .i64 1, .str ⟨#[111, 117, 116]⟩, .int .i64 2, .bool true, .bool false, .bool false, .bool false, .int .i64 1, .str ⟨#[109, 111, 118]⟩, .int .i64 3, .bool false, .bool true, .bool true, .bool false, .int .i64 1, .str ⟨#[99, 109, 111, 118, 122]⟩, .int .i64 4, .bool true, .bool true, .bool true, .bool false, .int .i64 1, .str ⟨#[99, 109, 111, 118, 110, 122]⟩, .int .i64 4, .bool true, .bool true, .bool true, .bool false, .int .i64 1, .str ⟨#[108, 100, 105]⟩, .int .i64 5, .bool false, .bool true, .bool false, .bool false, .int .i64 1, .str ⟨#[108, 100, 99]⟩, .int .i64 6, .bool false, .bool true, .bool false, .bool false, .int .i64 3, .str ⟨#[110, 101, 103]⟩, .int .i64 2, .bool true, .bool true, .bool false, .bool false, .int .i64 1, .str ⟨#[110, 111, 116]⟩, .int .i64 2, .bool true, .bool true, .bool false, .bool false, .int .i64 1, .str ⟨#[97, 100, 100]⟩, .int .i64 3, .bool true, .bool true, .bool true, .bool false, .int .i64 1, .str ⟨#[115, 117, 98]⟩, .int .i64 3, .bool true, .bool true, .bool true, .bool false, .int .i64 1, .str ⟨#[109, 117, 108]⟩, .int .i64 3, .bool true, .bool true, .bool true, .bool false, .int .i64 1, .str ⟨#[100, 105, 118]⟩, .int .i64 3, .bool true, .bool true, .bool true, .bool true, .int .i64 1, .str ⟨#[114, 101, 109]⟩, .int .i64 3, .bool true, .bool true, .bool true, .bool true, .int .i64 1, .str ⟨#[97, 110, 100]⟩, .int .i64 3, .bool true, .bool true, .bool true, .bool false, .int .i64 1, .str ⟨#[111, 114]⟩, .int .i64 3, .bool true, .bool true, .bool true, .bool false, .int .i64 1, .str ⟨#[120, 111, 114]⟩, .int .i64 3, .bool true, .bool true, .bool true, .bool false, .int .i64 1, .str ⟨#[115, 104, 108]⟩, .int .i64 3, .bool true, .bool true, .bool true, .bool false, .int .i64 1, .str ⟨#[115, 104, 114]⟩, .int .i64 3, .bool true, .bool true, .bool true, .bool false, .int .i64 1, .str ⟨#[115, 97, 114]⟩, .int .i64 3, .bool true, .bool true, .bool true, .bool false, .int .i64 1, .str ⟨#[101, 113]⟩, .int .i64 3, .bool true, .bool true, .bool true, .bool false, .int .i64 1, .str ⟨#[110, 101]⟩, .int .i64 3, .bool true, .bool true, .bool true, .bool false, .int .i64 1, .str ⟨#[108, 116]⟩, .int .i64 3, .bool true, .bool true, .bool true, .bool false, .int .i64 1, .str ⟨#[108, 101]⟩, .int .i64 3, .bool true, .bool true, .bool true, .bool false, .int .i64 1, .str ⟨#[108, 116, 117]⟩, .int .i64 3, .bool true, .bool true, .bool true, .bool false, .int .i64 1, .str ⟨#[97, 100, 100, 105]⟩, .int .i64 5, .bool true, .bool true, .bool false, .bool false, .int .i64 1, .str ⟨#[108, 100]⟩, .int .i64 7, .bool false, .bool true, .bool true, .bool true, .int .i64 1, .str ⟨#[115, 116]⟩, .int .i64 7, .bool true, .bool false, .bool true, .bool true, .int .i64 1, .str ⟨#[108, 100, 115]⟩, .int .i64 5, .bool false, .bool true, .bool false, .bool false, .int .i64 1, .str ⟨#[115, 116, 115]⟩, .int .i64 5, .bool true, .bool false, .bool false, .bool false, .int .i64 1] 37]
instance gl : Eng.Gl := ⟨fun g => bif g.beq 0 then some tabG0 else bif g.beq 3 then some tabG3 else bif g.beq 2 then some tabG2 else bif g.beq 1 then some tabG1 else none⟩

/-- the calls that are taken as functions -/
noncomputable def pol (f : FuncId) : Bool := f.beq 4 || f.beq 5 || f.beq 8 || f.beq 9 || f.beq 11 || f.beq 12 || f.beq 13 || f.beq 15 || f.beq 40 || f.beq 46 || f.beq 47 || f.beq 71 || f.beq 88 || f.beq 144 || f.beq 145 || f.beq 197 || f.beq 308

theorem noNum : Eng.NoNum Tryz.prog := @Eng.noNum_of gl (Eng.mxTab sp []) _ (by kernel_rfl)

theorem mixed : Tryz.prog.follows .mixedOrders = true := Tryz.checked.mixed

/-- nothing is known yet -/
noncomputable def tab0 : List Eng.KE := []
theorem known0 : ∀ e ∈ tab0, Eng.Known Tryz.prog e := Eng.known_nil

end Go.Proofs.YtnjcjcdmeomegaaGreatDoor.compilerExamples
