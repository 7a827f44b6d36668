/-
The engine's definitions: a deterministic abstract interpreter of the model's code.
The engine's definitions, part two: operations, regions, code, calls.
What it means that an abstract state describes a world of the model.
The four ways in which memory changes, and what the model's operations on memory do to a block.
Each operation of the engine describes the model's.
Each operation of the engine describes the model's: addresses, numbers, comparisons, append.
Each operation of the engine describes the model's: maps, conversions, append.
-/
import GoSem.Step
import Derived.Calls
import Derived.Orders
import Derived.Laws.Sem
import GoSem.Dispatch
import Derived.Lib.Builder
import Derived.Lib.UnsafeStr
set_option linter.unusedVariables false
set_option linter.unusedSimpArgs false
namespace Go.Eng
/-- an equation that holds by computation, but that simp is to cite -/
theorem nrf {α : Type} {a b : α} (h : a = b) : a = b := h

noncomputable def _root_.Option.ob {α β : Type} (x : Option α) (f : α → Option β) : Option β := Option.rec (motive := fun _ => Option β) none f x
theorem ob_eq {α β : Type} (x : Option α) (f : α → Option β) : x.ob f = x.bind f := by cases x <;> rfl
theorem ob_some {α β : Type} {x : Option α} {f : α → Option β} {b : β} : x.ob f = some b ↔ ∃ a, x = some a ∧ f a = some b := by cases x <;> simp [Option.ob]
/-- the two parts at once: nothing is left to be taken apart later -/
noncomputable def _root_.Option.o2 {α β γ : Type} (x : Option (α × β)) (f : α → β → Option γ) : Option γ := Option.rec (motive := fun _ => Option γ) none (fun p => Prod.rec (motive := fun _ => Option γ) f p) x
theorem o2_eq {α β γ : Type} (x : Option (α × β)) (f : α → β → Option γ) : x.o2 f = x.ob fun r => f r.1 r.2 := by cases x <;> rfl
noncomputable def on3 {α β γ δ : Type} (f : α → β → γ → δ) (r : α × β × γ) : δ := Prod.rec (motive := fun _ => δ) (fun x q => Prod.rec (motive := fun _ => δ) (fun y z => f x y z) q) r
theorem on3_eq {α β γ δ : Type} (f : α → β → γ → δ) (r : α × β × γ) : on3 f r = f r.1 r.2.1 r.2.2 := rfl
noncomputable def bc {α : Type} (b : Bool) (x y : α) : α := Bool.rec (motive := fun _ => α) y x b
theorem bc_true {α : Type} (x y : α) : bc true x y = x := rfl
theorem bc_false {α : Type} (x y : α) : bc false x y = y := rfl

/-- Abstract values. 'mp', 'ms', 'map', 'pa' (an array that is built as a row): into a mutable block, by its name; 'fp', 'fs': into memory that nobody writes any more. -/
inductive AV where
  | bool (b : Bool)
  | int (k : IntKind) (n : Int)
  | str (s : ByteArray)
  | nilp
  | mp (n off : Nat)
  | pa (n len z : Nat)
  | fp (cs : List AV)
  | nils
  | ms (n off len : Nat) (cap : Option Nat) (z : Nat)
  | fs (cs : List AV) (len : Nat)
  | nilm
  | map (n : Nat)
  | nilf
  | func (f : FuncId) (first captured : List AV)
  | nili
  | iface (t : TypeId) (v : AV)
  | agg (cs : List AV)
  | tup (vs : List AV)
  /-- a fixed address -/
  | adr (b o : Nat)

/-- Finite maps from numbers: a number is a way down a binary tree. -/
inductive Tr (α : Type) where
  | lf
  | nd (l : Tr α) (v : Option α) (r : Tr α)

theorem nbeq_false {a b : Nat} (h : a ≠ b) : a.beq b = false := by
  cases hb : a.beq b with
  | false => rfl
  | true => exact absurd (Nat.eq_of_beq_eq_true hb) h
theorem nbeq_iff {a b : Nat} : a.beq b = true ↔ a = b := ⟨Nat.eq_of_beq_eq_true, fun h => by subst h; exact Nat.beq_refl a⟩
theorem nble_iff {a b : Nat} : Nat.ble a b = true ↔ a ≤ b := ⟨Nat.le_of_ble_eq_true, Nat.ble_eq_true_of_le⟩
theorem nblt_iff {a b : Nat} : Nat.blt a b = true ↔ a < b := by unfold Nat.blt; rw [nble_iff]; omega

noncomputable def pathF (f : Nat) : Nat → List Bool :=
  Nat.rec (motive := fun _ => Nat → List Bool) (fun _ => [])
    (fun _ ih n => bif n.beq 0 then [] else bif (Nat.mod n 2).beq 1 then true :: ih (Nat.div n 2) else false :: ih (Nat.sub (Nat.div n 2) 1)) f

noncomputable def pathOf (n : Nat) : List Bool := pathF n n

theorem pathF_inj : ∀ (f g n m : Nat), n ≤ f → m ≤ g → pathF f n = pathF g m → n = m
  | 0, 0, n, m, h1, h2, _ => by omega
  | 0, g + 1, n, m, h1, h2, h => by
    obtain rfl : n = 0 := by omega
    change [] = (bif m.beq 0 then [] else bif (Nat.mod m 2).beq 1 then true :: pathF g (Nat.div m 2) else false :: pathF g (Nat.sub (Nat.div m 2) 1)) at h
    by_cases hm : m = 0
    · exact hm.symm
    · rw [nbeq_false hm] at h
      cases hb : (Nat.mod m 2).beq 1 <;> rw [hb] at h <;> cases h
  | f + 1, 0, n, m, h1, h2, h => by
    obtain rfl : m = 0 := by omega
    change (bif n.beq 0 then [] else bif (Nat.mod n 2).beq 1 then true :: pathF f (Nat.div n 2) else false :: pathF f (Nat.sub (Nat.div n 2) 1)) = [] at h
    by_cases hm : n = 0
    · exact hm
    · rw [nbeq_false hm] at h
      cases hb : (Nat.mod n 2).beq 1 <;> rw [hb] at h <;> cases h
  | f + 1, g + 1, n, m, h1, h2, h => by
    change (bif n.beq 0 then [] else bif (Nat.mod n 2).beq 1 then true :: pathF f (Nat.div n 2) else false :: pathF f (Nat.sub (Nat.div n 2) 1)) =
      (bif m.beq 0 then [] else bif (Nat.mod m 2).beq 1 then true :: pathF g (Nat.div m 2) else false :: pathF g (Nat.sub (Nat.div m 2) 1)) at h
    have e1 : Nat.mod n 2 = n % 2 := rfl
    have e2 : Nat.mod m 2 = m % 2 := rfl
    have e3 : Nat.div n 2 = n / 2 := rfl
    have e4 : Nat.div m 2 = m / 2 := rfl
    have e5 : ∀ k : Nat, Nat.sub k 1 = k - 1 := fun _ => rfl
    by_cases hn : n = 0 <;> by_cases hm : m = 0
    · omega
    · rw [nbeq_false hm] at h; subst hn
      cases hb : (Nat.mod m 2).beq 1 <;> rw [hb] at h <;> cases h
    · rw [nbeq_false hn] at h; subst hm
      cases hb : (Nat.mod n 2).beq 1 <;> rw [hb] at h <;> cases h
    · rw [nbeq_false hn, nbeq_false hm] at h
      cases hb : (Nat.mod n 2).beq 1 <;> cases hc : (Nat.mod m 2).beq 1 <;> rw [hb, hc] at h
      · have := pathF_inj f g _ _ (by rw [e5, e3]; omega) (by rw [e5, e4]; omega) (List.cons.inj h).2
        rw [e5, e5, e3, e4] at this
        have b1 : n % 2 ≠ 1 := fun h => by rw [e1, h] at hb; cases hb
        have b2 : m % 2 ≠ 1 := fun h => by rw [e2, h] at hc; cases hc
        omega
      · cases (List.cons.inj h).1
      · cases (List.cons.inj h).1
      · have := pathF_inj f g _ _ (by rw [e3]; omega) (by rw [e4]; omega) (List.cons.inj h).2
        rw [e3, e4] at this
        rw [nbeq_iff, e1] at hb
        rw [nbeq_iff, e2] at hc
        omega

theorem pathOf_inj {n m : Nat} (h : pathOf n = pathOf m) : n = m := pathF_inj n m n m (Nat.le_refl _) (Nat.le_refl _) h

structure GP (α : Type) where
  g : Tr α → Option α
structure SP (α : Type) where
  s : Option α → Tr α → Tr α

noncomputable def gp {α : Type} (p : List Bool) : GP α :=
  List.rec (motive := fun _ => GP α) ⟨fun t => Tr.rec (motive := fun _ => Option α) none (fun _ v _ _ _ => v) t⟩
    (fun b _ ih => Bool.rec (motive := fun _ => GP α) ⟨fun t => Tr.rec (motive := fun _ => Option α) none (fun _ _ r _ _ => ih.g r) t⟩
      ⟨fun t => Tr.rec (motive := fun _ => Option α) none (fun l _ _ _ _ => ih.g l) t⟩ b) p

noncomputable def Tr.getP {α : Type} (p : List Bool) (t : Tr α) : Option α := (gp p).g t

noncomputable def Tr.L {α : Type} (t : Tr α) (v : Option α) (r : Tr α) : Tr α := Tr.rec (motive := fun _ => Tr α) (.nd .lf v r) (fun a b c _ _ => .nd (.nd a b c) v r) t
noncomputable def Tr.R {α : Type} (l : Tr α) (v : Option α) (t : Tr α) : Tr α := Tr.rec (motive := fun _ => Tr α) (.nd l v .lf) (fun a b c _ _ => .nd l v (.nd a b c)) t

noncomputable def sp {α : Type} (p : List Bool) : SP α :=
  List.rec (motive := fun _ => SP α) ⟨fun x t => Tr.rec (motive := fun _ => Tr α) (.nd .lf x .lf) (fun l _ r _ _ => .nd l x r) t⟩
    (fun b _ ih => Bool.rec (motive := fun _ => SP α)
      ⟨fun x t => Tr.rec (motive := fun _ => Tr α) (Tr.R .lf none (ih.s x .lf)) (fun l v r _ _ => Tr.R l v (ih.s x r)) t⟩
      ⟨fun x t => Tr.rec (motive := fun _ => Tr α) (Tr.L (ih.s x .lf) none .lf) (fun l v r _ _ => Tr.L (ih.s x l) v r) t⟩ b) p

noncomputable def Tr.setP {α : Type} (x : Option α) (p : List Bool) (t : Tr α) : Tr α := (sp p).s x t

noncomputable def Tr.get {α : Type} (t : Tr α) (n : Nat) : Option α := t.getP (pathOf n)
noncomputable def Tr.put {α : Type} (t : Tr α) (n : Nat) (x : α) : Tr α := t.setP (some x) (pathOf n)
noncomputable def Tr.del {α : Type} (t : Tr α) (n : Nat) : Tr α := t.setP none (pathOf n)

theorem Tr.L_eq {α : Type} (t : Tr α) (v : Option α) (r : Tr α) : Tr.L t v r = .nd t v r := by cases t <;> rfl
theorem Tr.R_eq {α : Type} (t : Tr α) (v : Option α) (r : Tr α) : Tr.R r v t = .nd r v t := by cases t <;> rfl

theorem Tr.getP_lf {α : Type} (p : List Bool) : Tr.getP p (Tr.lf : Tr α) = none := by cases p with
  | nil => rfl
  | cons b p => cases b <;> rfl

theorem Tr.getP_setP {α : Type} (x : Option α) : ∀ (p q : List Bool) (t : Tr α), Tr.getP q (t.setP x p) = if q = p then x else t.getP q
  | [], [], t => by cases t <;> rfl
  | [], c :: q, t => by
    rw [if_neg (by simp)]
    cases t with
    | lf => cases c <;> exact Tr.getP_lf q
    | nd l v r => cases c <;> rfl
  | b :: p, [], t => by
    rw [if_neg (by simp)]
    cases t <;> cases b
    · show Tr.getP [] (Tr.R .lf none (Tr.setP x p .lf)) = _
      rw [Tr.R_eq]; rfl
    · show Tr.getP [] (Tr.L (Tr.setP x p .lf) none .lf) = _
      rw [Tr.L_eq]; rfl
    · rename_i l v r
      show Tr.getP [] (Tr.R l v (Tr.setP x p r)) = _
      rw [Tr.R_eq]; rfl
    · rename_i l v r
      show Tr.getP [] (Tr.L (Tr.setP x p l) v r) = _
      rw [Tr.L_eq]; rfl
  | b :: p, c :: q, t => by
    have ih := fun t => Tr.getP_setP x p q t
    by_cases hb : c = b
    · subst hb
      have e : (c :: q = c :: p) = (q = p) := by simp
      simp only [e]
      cases t with
      | lf =>
        have := ih .lf
        rw [Tr.getP_lf] at this
        cases c
        · show Tr.getP (false :: q) (Tr.R .lf none (Tr.setP x p .lf)) = _
          rw [Tr.R_eq, Tr.getP_lf]; exact this
        · show Tr.getP (true :: q) (Tr.L (Tr.setP x p .lf) none .lf) = _
          rw [Tr.L_eq, Tr.getP_lf]; exact this
      | nd l v r =>
        cases c
        · show Tr.getP (false :: q) (Tr.R l v (Tr.setP x p r)) = _
          rw [Tr.R_eq]; exact ih r
        · show Tr.getP (true :: q) (Tr.L (Tr.setP x p l) v r) = _
          rw [Tr.L_eq]; exact ih l
    · rw [if_neg (by simp [hb])]
      cases t with
      | lf =>
        cases b <;> cases c <;> first | exact absurd rfl hb | skip
        · show Tr.getP (true :: q) (Tr.R .lf none (Tr.setP x p .lf)) = _
          rw [Tr.R_eq]; exact Tr.getP_lf q
        · show Tr.getP (false :: q) (Tr.L (Tr.setP x p .lf) none .lf) = _
          rw [Tr.L_eq]; exact Tr.getP_lf q
      | nd l v r =>
        cases b <;> cases c <;> first | exact absurd rfl hb | skip
        · show Tr.getP (true :: q) (Tr.R l v (Tr.setP x p r)) = _
          rw [Tr.R_eq]; rfl
        · show Tr.getP (false :: q) (Tr.L (Tr.setP x p l) v r) = _
          rw [Tr.L_eq]; rfl

theorem Tr.get_put {α : Type} (t : Tr α) (n m : Nat) (x : α) : (t.put n x).get m = if m = n then some x else t.get m := by
  unfold Tr.get Tr.put
  rw [Tr.getP_setP]
  by_cases h : m = n
  · subst h; simp
  · rw [if_neg h, if_neg (fun e => h (pathOf_inj e))]
theorem Tr.get_del {α : Type} (t : Tr α) (n m : Nat) : (t.del n).get m = if m = n then none else t.get m := by
  unfold Tr.get Tr.del
  rw [Tr.getP_setP]
  by_cases h : m = n
  · subst h; simp
  · rw [if_neg h, if_neg (fun e => h (pathOf_inj e))]
@[simp] theorem Tr.get_lf {α : Type} (m : Nat) : (Tr.lf : Tr α).get m = none := Tr.getP_lf _
@[simp] theorem Tr.get_put_same {α : Type} (t : Tr α) (n : Nat) (x : α) : (t.put n x).get n = some x := by simp [Tr.get_put]
theorem Tr.get_put_ne {α : Type} (t : Tr α) {n m : Nat} (x : α) (h : m ≠ n) : (t.put n x).get m = t.get m := by simp [Tr.get_put, h]

structure ME where
  key : AV
  val : AV
  born : Nat

inductive AB where
  | cells (cs : List AV)
  | map (es : List ME) (clock : Nat)
  | ice (cs : List AV)
  /-- an iterator over a map: the map, its clock at the start, what came, its clock at the last step -/
  | iter (m : Option Nat) (since : Nat) (seen : List Nat) (last : Nat)
  /-- cells of a block whose element type is known -/
  | tcells (t : TypeId) (cs : List AV)

/-- may the block be written? -/
noncomputable def AB.mut : AB → Bool
  | .ice _ => false
  | _ => true

abbrev Tm := Tr AV

structure St where
  heap : Tr AB
  next : Nat

noncomputable def chk (b : Bool) : Option Unit := bc b (some ()) none

theorem chk_some {b : Bool} {u : Unit} : chk b = some u ↔ b = true := by cases b <;> simp [chk, bc]

/-- one flat constant -/
noncomputable def cv1 : Value → Option AV
  | .bool b => some (.bool b)
  | .int k n => some (.int k n)
  | .string s => some (.str s)
  | .pointer none => some .nilp
  | .slice none 0 0 => some .nils
  | .map none => some .nilm
  | .nilFunc => some .nilf
  | .nilIface => some .nili
  | _ => none

noncomputable def cvs : List Value → Option (List AV)
  | [] => some []
  | v :: vs => (cv1 v).ob fun x => (cvs vs).ob fun xs => some (x :: xs)

noncomputable def cv : Value → Option AV
  | .agg cs => (cvs cs.toList).ob fun xs => some (.agg xs)
  | v => cv1 v

noncomputable def AV.one : AV → Bool
  | .agg _ | .tup _ => false
  | _ => true

noncomputable def AV.cells : AV → List AV
  | .agg cs => cs
  | v => [v]

/-- what the tables say of a type -/
structure TE where
  und : TypeDesc
  size : Nat
  bytes : Nat
  zero : AV

noncomputable def isAggD : TypeDesc → Bool
  | .struct _ | .array _ _ => true
  | _ => false

noncomputable def te (P : Program) (t : TypeId) : Option TE :=
  (P.info? t).ob fun i => (P.underlying t).ob fun d => i.zero.ob fun z => (cv z).ob fun zv =>
    some { und := d, size := i.size, bytes := i.bytes, zero := zv }

noncomputable def sliceOf : TypeDesc → Option TypeId
  | .slice e => some e
  | _ => none
noncomputable def arrayOf : TypeDesc → Option (Nat × TypeId)
  | .array n e => some (n, e)
  | _ => none
noncomputable def structOf : TypeDesc → Option (List Field)
  | .struct fs => some fs.toList
  | _ => none
noncomputable def mapOf : TypeDesc → Option (TypeId × TypeId)
  | .map k e => some (k, e)
  | _ => none

/-- what the address of a package-level variable points at, where nobody writes it any more -/
class Gl where
  g : Nat → Option AV

/-- calls whose results are known: of name-free arguments; stores of values that are frozen first; arrays that are built as rows -/
class Mx where
  x : FuncId → List AV → Option AV
  st : TypeId → Operand → Operand → Bool := fun _ _ _ => false
  ar : TypeId → Bool := fun _ => false
  /-- literals of slices whose parts are frozen first -/
  bt : TypeId → Bool := fun _ => false
  /-- calls some of whose arguments are frozen first -/
  fz : FuncId → Option (Nat → Bool) := fun _ => none
  /-- calls that only borrow their arguments: their results hold no address -/
  ln : FuncId → Bool := fun _ => false
  /-- calls that do nothing to a slice of at most one element, of these types -/
  tn : FuncId → TypeId → Bool := fun _ _ => false
  /-- sort.Slice at a slice of this type: the function that sorts, the literal that swaps, the type of an element -/
  so : FuncId → TypeId → Option (FuncId × FuncId × TypeId) := fun _ _ => none
  /-- the literals that swap -/
  sw : FuncId → Bool := fun _ => false
  /-- rows of these elements keep their type -/
  ty : TypeId → Bool := fun _ => false
  /-- calls that only look: they may take several ways, all of which end alike -/
  ro : FuncId → Bool := fun _ => false
  /-- calls of functions without a body, on arguments without names -/
  ex : FuncId → List AV → Option AV := fun _ _ => none

noncomputable def ev [Gl] (T : Tm) : Operand → Option AV
  | .tmp t => T.get t
  | .const v => cv v
  | .global g => Gl.g g
  | .func f => some (.func f [] [])

noncomputable def evs [Gl] (T : Tm) : List Operand → Option (List AV)
  | [] => some []
  | x :: xs => (ev T x).ob fun v => (evs T xs).ob fun vs => some (v :: vs)

noncomputable def evp [Gl] (T : Tm) : List (Nat × Operand) → Option (List (Nat × AV))
  | [] => some []
  | (i, x) :: xs => (ev T x).ob fun v => (evp T xs).ob fun vs => some ((i, v) :: vs)

noncomputable def newB (S : St) (b : AB) : St := { heap := S.heap.put S.next b, next := S.next + 1 }

noncomputable def cellsOf (S : St) (n : Nat) : Option (List AV) :=
  (S.heap.get n).ob fun b => match b with
  | .cells cs => some cs
  | .tcells _ cs => some cs
  | _ => none
noncomputable def rowB (b : Bool) (t : TypeId) (cs : List AV) : AB := bif b then .tcells t cs else .cells cs
/-- is the block's element type known to be t? -/
noncomputable def typed (S : St) (n : Nat) (t : TypeId) : Bool := match S.heap.get n with
  | some (.tcells u _) => u.beq t
  | _ => false
/-- cells that may be read -/
noncomputable def readOf (S : St) (n : Nat) : Option (List AV) :=
  (S.heap.get n).ob fun b => match b with
  | .cells cs => some cs
  | .ice cs => some cs
  | .tcells _ cs => some cs
  | _ => none
noncomputable def entriesOf (S : St) (n : Nat) : Option (List ME × Nat) :=
  (S.heap.get n).ob fun b => match b with
  | .map es c => some (es, c)
  | _ => none

/-- n cells from off on -/
noncomputable def sub (cs : List AV) (off n : Nat) : Option (List AV) :=
  let r := (cs.drop off).take n
  bc (r.length.beq n) (some r) none

/-- overwrite from the head on -/
noncomputable def over0 : List AV → List AV → Option (List AV)
  | cs, [] => some cs
  | [], _ :: _ => none
  | _ :: cs, x :: xs => (over0 cs xs).ob fun r => some (x :: r)

/-- overwrite from off on -/
noncomputable def over : List AV → Nat → List AV → Option (List AV)
  | cs, 0, xs => over0 cs xs
  | [], _ + 1, _ => none
  | c :: cs, n + 1, xs => (over cs n xs).ob fun r => some (c :: r)

noncomputable def nth (cs : List AV) (n : Nat) : Option AV :=
  List.rec (motive := fun _ => Nat → Option AV) (fun _ => none) (fun c _ ih n => Nat.rec (motive := fun _ => Option AV) (some c) (fun m _ => ih m) n) cs n

theorem nth_eq : ∀ (cs : List AV) (n : Nat), nth cs n = cs[n]?
  | [], _ => rfl
  | _ :: _, 0 => rfl
  | _ :: cs, n + 1 => by rw [List.getElem?_cons_succ, ← nth_eq cs n]; rfl

/-- a variable of a type out of cells -/
noncomputable def partA (e : TE) (cs : List AV) (off : Nat) : Option AV :=
  bc (isAggD e.und) ((sub cs off e.size).ob fun r => some (.agg r)) (nth cs off)

noncomputable def loadA (e : TE) (S : St) : AV → Option AV
  | .mp n off => (readOf S n).ob fun c => partA e c off
  | .fp cs => partA e cs 0
  | _ => none

noncomputable def storeA (e : TE) (S : St) (a v : AV) : Option St :=
  match a with
  | .mp n off => (cellsOf S n).ob fun c => (chk (v.cells.length.beq e.size && v.cells.all AV.one)).ob fun _ =>
      (over c off v.cells).ob fun r => some { S with heap := S.heap.put n (.cells r) }
  | _ => none

noncomputable def fillA (place : Nat → Option (Nat × Nat)) (cells : List AV) : List (Nat × AV) → Option (List AV)
  | [] => some cells
  | (i, v) :: rest => (place i).ob fun p => (chk (v.cells.length.beq p.2)).ob fun _ => (over cells p.1 v.cells).ob fun r => fillA place r rest

noncomputable def placesA (P : Program) : List Field → Option (List (Nat × Nat))
  | [] => some []
  | f :: fs => (te P f.type).ob fun g => (placesA P fs).ob fun r => some ((f.offset, g.size) :: r)

noncomputable def buildA (P : Program) (t : TypeId) (parts : List (Nat × AV)) : Option AV :=
  (te P t).ob fun e => match e.und with
    | .struct fields => (placesA P fields.toList).ob fun ps => (fillA (fun i => ps[i]?) e.zero.cells parts).ob fun r => some (.agg r)
    | .array _ elem => (te P elem).ob fun g => (fillA (fun i => some (i * g.size, g.size)) e.zero.cells parts).ob fun r => some (.agg r)
    | _ => none

noncomputable def repl (zero : List AV) : Nat → List AV
  | 0 => []
  | n + 1 => zero ++ repl zero n

noncomputable def big : Nat := 1099511627776

noncomputable def buildSliceA (P : Program) (S : St) (t : TypeId) (len : Nat) (parts : List (Nat × AV)) : Option (AV × St) :=
  (te P t).ob fun e => (sliceOf e.und).ob fun elem => (te P elem).ob fun g =>
    (chk (Nat.ble (len * g.size) 16777216 && g.zero.cells.length.beq g.size)).ob fun _ =>
      (fillA (fun i => some (i * g.size, g.size)) (repl g.zero.cells len) parts).ob fun r =>
        some (.ms S.next 0 len (some len) g.size, newB S (.cells r))

noncomputable def asI : AV → Option Int
  | .int _ n => some n
  | _ => none

noncomputable def asN : AV → Option Nat
  | .int _ (.ofNat n) => some n
  | _ => none

noncomputable def makeSliceA (P : Program) (S : St) (t : TypeId) (l c : AV) : Option (AV × St) :=
  (asN l).ob fun l => (asN c).ob fun c => (te P t).ob fun e => (sliceOf e.und).ob fun elem => (te P elem).ob fun g =>
    (chk (Nat.ble l c && Nat.ble (g.bytes * c) big && Nat.ble c big && g.zero.cells.length.beq g.size)).ob fun _ =>
      some (.ms S.next 0 l (some c) g.size, newB S (.cells (repl g.zero.cells c)))

/-- an optional bound of a slice expression -/
noncomputable def bnd [Gl] (T : Tm) (x : Option Operand) (d : Nat) : Option Nat :=
  match x with
  | none => some d
  | some o => (ev T o).ob asN

noncomputable def cutMs (n off len : Nat) (z l h : Nat) : Option Nat → Option AV
  | some c => (chk (Nat.ble l h && Nat.ble h c)).ob fun _ => some (.ms n (bc (c.beq l) off (off + l * z)) (h - l) (some (c - l)) z)
  | none => (chk (Nat.ble l h && Nat.ble h len)).ob fun _ =>
      bc (l.beq 0) (some (.ms n off h none z)) (bc (Nat.blt l len) (some (.ms n (off + l * z) (h - l) none z)) (some (.fs [] 0)))

/-- a slice expression with a bound of its capacity, from the start -/
noncomputable def slice3A [Gl] (P : Program) (T : Tm) (t : TypeId) (x : AV) (lo hi : Option Operand) (m : Operand) : Option AV :=
  (te P t).ob fun e => match e.und, x, lo, hi with
    | .slice elem, .nils, none, some hi => (te P elem).ob fun _ => ((ev T hi).ob asN).ob fun h => ((ev T m).ob asN).ob fun m => (chk (Nat.ble h 0 && Nat.ble m 0)).ob fun _ => some .nils
    | .slice elem, .ms n off len _ z, none, some hi => (te P elem).ob fun g => (chk (g.size.beq z)).ob fun _ => ((ev T hi).ob asN).ob fun h => ((ev T m).ob asN).ob fun m =>
        (chk (Nat.ble h m && Nat.ble m len)).ob fun _ => some (.ms n off h (some m) z)
    | _, _, _, _ => none

noncomputable def sliceA [Gl] (P : Program) (T : Tm) (t : TypeId) (x : AV) (lo hi mx : Option Operand) : Option AV := match mx with
  | some m => slice3A P T t x lo hi m
  | none => (te P t).ob fun e => match e.und, x with
    | .string, .str s => (bnd T lo 0).ob fun l => (bnd T hi s.size).ob fun h => (chk (Nat.ble l h && Nat.ble h s.size)).ob fun _ => some (.str (s.extract l h))
    | .slice elem, .nils => (te P elem).ob fun _ => (bnd T lo 0).ob fun l => (bnd T hi 0).ob fun h => (chk (Nat.ble l h && Nat.ble h 0)).ob fun _ => some .nils
    | .slice elem, .ms n off len cap z => (te P elem).ob fun g => (chk (g.size.beq z)).ob fun _ => (bnd T lo 0).ob fun l => (bnd T hi len).ob fun h => cutMs n off len z l h cap
    | .slice elem, .fs cs len => (te P elem).ob fun g => (bnd T lo 0).ob fun l => (bnd T hi len).ob fun h => (chk (Nat.ble l h && Nat.ble h len)).ob fun _ =>
        some (.fs ((cs.drop (l * g.size)).take ((h - l) * g.size)) (h - l))
    | .array m elem, .pa n len z => (te P elem).ob fun g => (chk (g.size.beq z && len.beq m)).ob fun _ => (bnd T lo 0).ob fun l => (bnd T hi len).ob fun h => cutMs n 0 len z l h (some len)
    | _, _ => none

/-- the whole of an array as a slice: of an array in a block as well -/
noncomputable def sliceW [Gl] (P : Program) (S : St) (T : Tm) (t : TypeId) (x : AV) : Option AV := match x with
  | .mp n off => (te P t).ob fun e => match e.und with
    | .array m elem => (te P elem).ob fun g => (cellsOf S n).ob fun cs => (chk (Nat.ble (off + m * g.size) cs.length && (Nat.blt 0 m && Nat.blt 0 cs.length))).ob fun _ => some (.ms n off m (some m) g.size)
    | _ => none
  | x => sliceA P T t x none none none

noncomputable def allN (lo hi mx : Option Operand) : Bool := lo.isNone && (hi.isNone && mx.isNone)
noncomputable def sliceX [Gl] (P : Program) (S : St) (T : Tm) (t : TypeId) (x : AV) (lo hi mx : Option Operand) : Option AV :=
  bif allN lo hi mx then sliceW P S T t x else sliceA P T t x lo hi mx

noncomputable def shiftP (off : Nat) : AV → Option AV
  | .mp n o => some (.mp n (o + off))
  | .fp cs => some (.fp (cs.drop off))
  | .pa n _ _ => some (.mp n off)
  | _ => none

noncomputable def fieldAddrA (P : Program) (s : TypeId) (x : AV) (f : Nat) : Option AV :=
  (te P s).ob fun e => (structOf e.und).ob fun fs => (fs[f]?).ob fun fd => (te P fd.type).ob fun g =>
    (chk (!g.size.beq 0)).ob fun _ => shiftP fd.offset x

noncomputable def fieldA (P : Program) (s : TypeId) (x : AV) (f : Nat) : Option AV :=
  match x with
  | .agg cs => (te P s).ob fun e => (structOf e.und).ob fun fs => (fs[f]?).ob fun fd => (te P fd.type).ob fun g => partA g cs fd.offset
  | _ => none

noncomputable def indexAddrA (P : Program) (t : TypeId) (x ix : AV) : Option AV :=
  (asN ix).ob fun i => (te P t).ob fun e => match e.und, x with
    | .array len elem, x => (te P elem).ob fun g => (chk (Nat.blt i len)).ob fun _ => shiftP (i * g.size) x
    | .slice elem, .ms n off len _ _ => (te P elem).ob fun g => (chk (Nat.blt i len)).ob fun _ => some (.mp n (off + i * g.size))
    | .slice elem, .fs cs len => (te P elem).ob fun g => (chk (Nat.blt i len && !cs.isEmpty)).ob fun _ => some (.fp (cs.drop (i * g.size)))
    | _, _ => none

noncomputable def indexA (P : Program) (t : TypeId) (x ix : AV) : Option AV :=
  (asN ix).ob fun i => (te P t).ob fun e => match e.und, x with
    | .array len elem, .agg cs => (te P elem).ob fun g => (chk (Nat.blt i len)).ob fun _ => partA g cs (i * g.size)
    | .string, .str s => (s[i]?).ob fun b => some (.int .u8 b.toNat)
    | _, _ => none

noncomputable def isConstO : Operand → Bool
  | .const _ => true
  | _ => false

noncomputable def bitsA (k : IntKind) (r : BitVec k.bits) : AV := .int k (k.wrap r.toNat)

noncomputable def intBinA (op : BinOp) (k : IntKind) (a b : Int) : Option AV :=
  match op with
  | .add => some (.int k (k.wrap (a + b)))
  | .sub => some (.int k (k.wrap (a - b)))
  | .mul => some (.int k (k.wrap (a * b)))
  | .quo => if b = 0 then none else some (.int k (k.wrap (a.tdiv b)))
  | .rem => if b = 0 then none else some (.int k (a.tmod b))
  | .and => some (bitsA k (BitVec.ofInt k.bits a &&& BitVec.ofInt k.bits b))
  | .or => some (bitsA k (BitVec.ofInt k.bits a ||| BitVec.ofInt k.bits b))
  | .xor => some (bitsA k (BitVec.ofInt k.bits a ^^^ BitVec.ofInt k.bits b))
  | .andNot => some (bitsA k (BitVec.ofInt k.bits a &&& ~~~ BitVec.ofInt k.bits b))
  | .eql => some (.bool (a == b))
  | .neq => some (.bool (a != b))
  | .lss => some (.bool (a < b))
  | .leq => some (.bool (a ≤ b))
  | .gtr => some (.bool (a > b))
  | .geq => some (.bool (a ≥ b))
  | .shl | .shr => none

noncomputable def shiftA (op : BinOp) (k : IntKind) (a b : Int) : Option AV :=
  if b < 0 then none else
  match op with
  | .shl => some (.int k (k.wrap (a * 2 ^ (min b.toNat k.bits))))
  | .shr => some (.int k (a.fdiv (2 ^ (min b.toNat k.bits))))
  | _ => none

noncomputable def strBinA (op : BinOp) (x y : ByteArray) : Option AV :=
  match op with
  | .add => if x.size + y.size ≤ big then some (.str (x ++ y)) else none
  | .eql => some (.bool (x.toList == y.toList))
  | .neq => some (.bool !(x.toList == y.toList))
  | .lss => some (.bool (Op.bytesLess x.toList y.toList))
  | .leq => some (.bool (Op.bytesLess x.toList y.toList || x.toList == y.toList))
  | .gtr => some (.bool !(Op.bytesLess x.toList y.toList || x.toList == y.toList))
  | .geq => some (.bool !(Op.bytesLess x.toList y.toList))
  | _ => none

/-- '==' where one side is nil, or both are bools -/
noncomputable def eqA (d : TypeDesc) (konst : Bool) : AV → AV → Option Bool
  | .bool p, .bool q => match d with | .bool => some (p == q) | _ => none
  | .nilp, y => match d, y with
    | .pointer _, .nilp => some true
    | .pointer _, .mp .. | .pointer _, .fp .. => some false
    | _, _ => none
  | x, .nilp => match d, x with
    | .pointer _, .mp .. | .pointer _, .fp .. => some false
    | _, _ => none
  | .nils, y => match d, y with
    | .slice _, .nils => some true
    | .slice _, .ms .. | .slice _, .fs _ (_ + 1) => some false
    | _, _ => none
  | x, .nils => match d, x with
    | .slice _, .ms .. | .slice _, .fs _ (_ + 1) => some false
    | _, _ => none
  | .nili, y => match d, y with
    | .interface _, .nili => bif konst then some true else none
    | .interface _, .iface .. => some false
    | _, _ => none
  | x, .nili => match d, x with
    | .interface _, .iface .. => some false
    | _, _ => none
  | _, _ => none

noncomputable def ints2 : List AV → Option (IntKind × Int × IntKind × Int)
  | [.int k a, .int j b] => some (k, a, j, b)
  | _ => none
/-- '==' of two arrays of two integers -/
noncomputable def arr2A (P : Program) (t : TypeId) (xs ys : List AV) : Option Bool := (te P t).ob fun e => match e.und with
  | .array n el => (chk (n.beq 2)).ob fun _ => (te P el).ob fun g => match g.und with
    | .int _ => (chk (g.size.beq 1)).ob fun _ => (ints2 xs).ob fun p => (ints2 ys).ob fun q => (chk (decide (p.1 = q.1) && decide (p.2.2.1 = q.2.2.1))).ob fun _ => some (p.2.1 == q.2.1 && p.2.2.2 == q.2.2.2)
    | _ => none
  | _ => none

/-- '==' of two structs whose parts are bools, integers and such structs -/
noncomputable def eqFs (P : Program) (g : TypeId → AV → AV → Option Bool) (xs ys : List AV) : List Field → Option Bool
  | [] => some true
  | f :: fs => bif decide (f.name = "_") then none else (te P f.type).ob fun e => (partA e xs f.offset).ob fun a => (partA e ys f.offset).ob fun b => (g f.type a b).ob fun r =>
      (eqFs P g xs ys fs).ob fun q => some (r && q)
noncomputable def eqS (P : Program) : Nat → TypeId → AV → AV → Option Bool
  | 0, _, _, _ => none
  | d + 1, t, x, y => (te P t).ob fun e => match e.und, x, y with
    | .bool, .bool a, .bool b => some (a == b)
    | .int _, .int k a, .int k' b => (chk (decide (k = k'))).ob fun _ => some (a == b)
    | .struct fs, .agg xs, .agg ys => (chk (!P.stoodInHeld t)).ob fun _ => eqFs P (eqS P d) xs ys fs.toList
    | _, _, _ => none
noncomputable def aggA (P : Program) (t : TypeId) (xs ys : List AV) : Option Bool := match arr2A P t xs ys with
  | some r => some r
  | none => eqS P 10 t (.agg xs) (.agg ys)

/-- '==' of a pointer and itself -/
noncomputable def samePA (P : Program) (t : TypeId) (n o n' o' : Nat) : Option Bool := (te P t).ob fun e => match e.und with
  | .pointer el => (te P el).ob fun _ => (chk (n.beq n' && o.beq o')).ob fun _ => some true
  | _ => none
noncomputable def binA (P : Program) (op : BinOp) (t : TypeId) (x y : Operand) (a b : AV) : Option AV :=
  match a, b with
  | .agg xs, .agg ys => match op with
    | .eql => (aggA P t xs ys).ob fun r => some (.bool r)
    | .neq => (aggA P t xs ys).ob fun r => some (.bool !r)
    | _ => none
  | .int k m, .int k' n => match op with
    | .shl | .shr => shiftA op k m n
    | _ => if k = k' then intBinA op k m n else none
  | .str m, .str n => strBinA op m n
  | .mp n o, .mp n' o' => match op with
    | .eql => (samePA P t n o n' o').ob fun r => some (.bool r)
    | .neq => (samePA P t n o n' o').ob fun r => some (.bool !r)
    | _ => none
  | a, b => match op with
    | .eql => (te P t).ob fun e => (eqA e.und (isConstO x || isConstO y) a b).ob fun r => some (.bool r)
    | .neq => (te P t).ob fun e => (eqA e.und (isConstO x || isConstO y) a b).ob fun r => some (.bool !r)
    | _ => none

noncomputable def unA (op : UnOp) (x : AV) : Option AV :=
  match op, x with
  | .neg, .int k n => some (.int k (k.wrap (0 - n)))
  | .xor, .int k n => some (bitsA k (BitVec.ofInt k.bits (if k.signed then -1 else k.max) ^^^ BitVec.ofInt k.bits n))
  | .not, .bool b => some (.bool !b)
  | _, _ => none

noncomputable def bytesOfA : List AV → Option (List UInt8)
  | [] => some []
  | .int .u8 n :: r => (bytesOfA r).ob fun bs => some (UInt8.ofNat n.toNat :: bs)
  | _ => none

/-- all the cells that a slice or a string gives -/
noncomputable def srcA (S : St) (size : Nat) : AV → Option (List AV)
  | .str s => (chk (size.beq 1)).ob fun _ => some (s.data.toList.map fun b => .int .u8 b.toNat)
  | .nils => some []
  | .ms b off len _ _ => (readOf S b).ob fun c => sub c off (len * size)
  | .fs cs len => sub cs 0 (len * size)
  | _ => none

noncomputable def lenOfA : AV → Option Nat
  | .nils => some 0
  | .ms _ _ len _ _ => some len
  | .fs _ len => some len
  | .str s => some s.size
  | _ => none

/-- a pointer seen as an unsafe pointer, and back -/
noncomputable def convU (P : Program) (S : St) (s d : TypeDesc) (x : AV) : Option AV := match s, d, x with
  | .pointer t, .unsafePointer, .mp n off => (te P t).ob fun g => (readOf S n).ob fun cs => (chk (!g.size.beq 0 && Nat.blt off cs.length)).ob fun _ => some (.mp n off)
  | .unsafePointer, .pointer u, .mp n off => (te P u).ob fun _ => (cellsOf S n).ob fun cs => (chk (off.beq 0 && typed S n u && Nat.blt 0 (P.cellsOf u) && Nat.ble (P.cellsOf u) cs.length)).ob fun _ => some (.mp n 0)
  | _, _, _ => none
noncomputable def convA (P : Program) (S : St) (src dst : TypeId) (x : AV) : Option AV :=
  (te P src).ob fun s => (te P dst).ob fun d => match s.und, d.und, x with
    | .int _, .int k, .int _ n => some (.int k (k.wrap n))
    | .string, .string, .str b => some (.str b)
    | .slice e, .string, x => (te P e).ob fun g => match g.und, x with
      | .int .u8, .nils => some (.str ByteArray.empty)
      | .int .u8, .ms b off len c z => (srcA S 1 (.ms b off len c z)).ob fun cs => (bytesOfA cs).ob fun bs => some (.str ⟨bs.toArray⟩)
      | .int .u8, .fs cs len => (srcA S 1 (.fs cs len)).ob fun cs => (bytesOfA cs).ob fun bs => some (.str ⟨bs.toArray⟩)
      | _, _ => none
    | s, d, x => convU P S s d x

noncomputable def lenA (P : Program) (S : St) (t : TypeId) (x : AV) : Option AV :=
  (te P t).ob fun e => match e.und, x with
    | .string, .str s => some (.int .i64 s.size)
    | .array n _, _ => some (.int .i64 n)
    | .slice _, .nils => some (.int .i64 0)
    | .slice _, .ms _ _ len _ _ => some (.int .i64 len)
    | .slice _, .fs _ len => some (.int .i64 len)
    | .map _ _, .nilm => some (.int .i64 0)
    | .map _ _, .map n => (entriesOf S n).ob fun c => some (.int .i64 c.1.length)
    | _, _ => none

noncomputable def roomOk (need bytes : Nat) : Bool := Nat.ble need big && Nat.ble (need * bytes) big

/-- append to a slice: where its capacity is known it is written in place or copied; else its block is given up and a new name holds the result. -/
noncomputable def growA [Mx] (S : St) (el : TypeId) (g : TE) (new : List AV) (m : Nat) : AV → Option (AV × St)
  | .nils => bc (m.beq 0) (some (.nils, S)) ((chk (roomOk m g.bytes)).ob fun _ => some (.ms S.next 0 m none g.size, newB S (rowB (Mx.ty el) el new)))
  | .ms n off len cap z => (cellsOf S n).ob fun c => (chk (z.beq g.size && roomOk (len + m) g.bytes)).ob fun _ => match cap with
    | some k => bc (Nat.ble (len + m) k)
      ((over c (off + len * g.size) new).ob fun r => some (.ms n off (len + m) (some k) z, { S with heap := S.heap.put n (.cells r) }))
      ((sub c off (len * g.size)).ob fun old => some (.ms S.next 0 (len + m) none g.size, newB S (rowB (Mx.ty el) el (old ++ new))))
    | none => (sub c off (len * g.size)).ob fun old => some (.ms S.next 0 (len + m) none g.size, newB { S with heap := S.heap.del n } (rowB (typed S n el && off.beq 0) el (old ++ new)))
  | _ => none

end Go.Eng
namespace Go.Eng

/-- two strings, byte by byte -/
noncomputable def sameB : List UInt8 → List UInt8 → Bool
  | [], [] => true
  | x :: xs, y :: ys => x.toNat.beq y.toNat && sameB xs ys
  | _, _ => false
theorem sameB_eq : ∀ {l m : List UInt8}, sameB l m = true → l = m
  | [], [], _ => rfl
  | x :: xs, y :: ys, h => by
    simp only [sameB, Bool.and_eq_true] at h
    rw [UInt8.toNat_inj.1 (Nat.eq_of_beq_eq_true h.1), sameB_eq h.2]
  | [], _ :: _, h => by cases h
  | _ :: _, [], h => by cases h
theorem sameB_str {a b : ByteArray} (h : sameB a.data.toList b.data.toList = true) : a = b := by
  obtain ⟨⟨l⟩⟩ := a
  obtain ⟨⟨m⟩⟩ := b
  rw [show l = m from sameB_eq h]
mutual
noncomputable def same : AV → AV → Bool
  | .bool a, .bool b => a == b
  | .int k a, .int k' b => decide (k = k') && decide (a = b)
  | .str a, .str b => sameB a.data.toList b.data.toList
  | .nilp, .nilp => true
  | .mp n o, .mp n' o' => n.beq n' && o.beq o'
  | .pa n l z, .pa n' l' z' => n.beq n' && l.beq l' && z.beq z'
  | .fp a, .fp b => sames a b
  | .nils, .nils => true
  | .ms n o l c z, .ms n' o' l' c' z' => n.beq n' && o.beq o' && l.beq l' && decide (c = c') && z.beq z'
  | .fs a l, .fs b m => l.beq m && sames a b
  | .nilm, .nilm => true
  | .map n, .map m => n.beq m
  | .nilf, .nilf => true
  | .func f a c, .func g b d => f.beq g && sames a b && sames c d
  | .nili, .nili => true
  | .iface t x, .iface u y => t.beq u && same x y
  | .agg a, .agg b => sames a b
  | .tup a, .tup b => sames a b
  | .adr a b, .adr c d => a.beq c && b.beq d
  | _, _ => false
noncomputable def sames : List AV → List AV → Bool
  | [], [] => true
  | x :: xs, y :: ys => same x y && sames xs ys
  | _, _ => false
end

/-- a flat integer -/
noncomputable def isInt : AV → Bool
  | .int _ _ => true
  | _ => false
/-! maps with keys that are integers, strings or structs of integers -/
noncomputable def intF (P : Program) (i : Nat) (f : Field) : Bool := f.offset.beq i && !decide (f.name = "_") && (match te P f.type with
  | some e => (match e.und with
    | .int _ => true
    | _ => false)
  | none => false)
/-- a struct of two integers -/
noncomputable def twoI (P : Program) (t : TypeId) (fs : List Field) : Bool := (match fs with
  | [f, g] => intF P 0 f && intF P 1 g
  | _ => false) && !P.stoodInHeld t

noncomputable def sameK : TypeDesc → AV → AV → Option Bool
  | .int _, .int j a, .int j' b => if j = j' then some (a == b) else none
  | .string, .str a, .str b => some (a == b)
  | .struct _, .agg [.int j a, .int l b], .agg [.int j' a', .int l' b'] => if j = j' ∧ l = l' then some (a == a' && b == b') else none
  | _, _, _ => none

noncomputable def keyOk (P : Program) (t : TypeId) : TypeDesc → AV → Bool
  | .int _, .int _ _ => true
  | .string, .str _ => true
  | .struct fs, .agg [.int _ _, .int _ _] => twoI P t fs.toList
  | _, _ => false

noncomputable def findE (d : TypeDesc) (k : AV) : List ME → Nat → Option (Option (Nat × AV))
  | [], _ => some none
  | e :: es, i => (sameK d k e.key).ob fun b => bif b then some (some (i, e.val)) else findE d k es (i + 1)

noncomputable def lookupA (P : Program) (S : St) (t : TypeId) (x k : AV) (ok : Bool) : Option AV :=
  (te P t).ob fun e => (mapOf e.und).ob fun ke => (te P ke.1).ob fun kt => (te P ke.2).ob fun et => (chk (keyOk P ke.1 kt.und k)).ob fun _ =>
    (match x with
      | .nilm => some []
      | .map n => (entriesOf S n).ob fun c => some c.1
      | _ => none : Option (List ME)).ob fun es =>
    (findE kt.und k es 0).ob fun r => match r with
      | some (_, v) => some (bif ok then .tup [v, .bool true] else v)
      | none => some (bif ok then .tup [et.zero, .bool false] else et.zero)

noncomputable def mapUpdA (P : Program) (S : St) (t : TypeId) (x k v : AV) : Option St :=
  (te P t).ob fun e => (mapOf e.und).ob fun ke => (te P ke.1).ob fun kt => (chk (keyOk P ke.1 kt.und k)).ob fun _ =>
    match x with
    | .map n => (entriesOf S n).ob fun c => (findE kt.und k c.1 0).ob fun r => match r with
      | some (i, _) => some { S with heap := S.heap.put n (.map (c.1.modify i fun e => { e with key := k, val := v }) c.2) }
      | none => some { S with heap := S.heap.put n (.map (c.1 ++ [⟨k, v, c.2⟩]) (c.2 + 1)) }
    | _ => none

noncomputable def mapEntA (P : Program) (S : St) (t : TypeId) (x k : AV) : Option (AV × St) :=
  (te P t).ob fun e => (mapOf e.und).ob fun ke => (te P ke.1).ob fun kt => (te P ke.2).ob fun et => (chk (keyOk P ke.1 kt.und k)).ob fun _ =>
    match x with
    | .map n => (entriesOf S n).ob fun c => (findE kt.und k c.1 0).ob fun r => match r with
      | some (i, v) => some (.tup [v, .int .i64 (((c.1[i]?).map (·.born)).getD 0)], { S with heap := S.heap.put n (.map (c.1.modify i fun e => { e with key := k }) c.2) })
      | none => some (.tup [et.zero, .int .i64 c.2], { S with heap := S.heap.put n (.map (c.1 ++ [⟨k, et.zero, c.2⟩]) (c.2 + 1)) })
    | _ => none

noncomputable def entStA (S : St) (x st v : AV) : Option St :=
  match x, st with
  | .map n, .int _ b => (entriesOf S n).ob fun c => (c.1.findIdx? fun e => (e.born : Int) == b).ob fun i =>
      some { S with heap := S.heap.put n (.map (c.1.modify i fun e => { e with val := v }) c.2) }
  | _, _ => none

noncomputable def maxL (k : IntKind) (x : Int) : List AV → Option AV
  | [] => some (.int k x)
  | .int _ y :: r => maxL k (if y > x then y else x) r
  | _ => none
noncomputable def minL (k : IntKind) (x : Int) : List AV → Option AV
  | [] => some (.int k x)
  | .int _ y :: r => minL k (if y < x then y else x) r
  | _ => none
noncomputable def maxA : List AV → Option AV
  | .int k x :: r => maxL k x r
  | _ => none
noncomputable def minA : List AV → Option AV
  | .int k x :: r => minL k x r
  | _ => none

/-! freezing: a value's mutable memory is given up, its contents become part of the value -/
noncomputable def mapS (g : St → AV → Option (AV × St)) : St → List AV → Option (List AV × St)
  | S, [] => some ([], S)
  | S, x :: xs => (g S x).o2 fun y S1 => (mapS g S1 xs).o2 fun ys S2 => some (y :: ys, S2)

noncomputable def frz : Nat → St → AV → Option (AV × St)
  | 0, _, _ => none
  | f + 1, S, v => match v with
    | .ms n off len _ z => (S.heap.get n).ob fun b => match b with
      | .cells c => (sub c off (len * z)).ob fun r => (mapS (frz f) { S with heap := S.heap.put n (.ice c) } r).o2 fun ys S2 => some (.fs ys len, S2)
      | .tcells _ c => (sub c off (len * z)).ob fun r => (mapS (frz f) { S with heap := S.heap.put n (.ice c) } r).o2 fun ys S2 => some (.fs ys len, S2)
      | .ice c => (sub c off (len * z)).ob fun r => (mapS (frz f) S r).o2 fun ys S2 => some (.fs ys len, S2)
      | .map _ _ => none
      | .iter .. => none
    | .mp n off => (S.heap.get n).ob fun b => match b with
      | .cells c => (mapS (frz f) { S with heap := S.heap.put n (.ice c) } (c.drop off)).o2 fun ys S2 => some (.fp ys, S2)
      | .tcells _ c => (mapS (frz f) { S with heap := S.heap.put n (.ice c) } (c.drop off)).o2 fun ys S2 => some (.fp ys, S2)
      | .ice c => (mapS (frz f) S (c.drop off)).o2 fun ys S2 => some (.fp ys, S2)
      | .map _ _ => none
      | .iter .. => none
    | .agg cs => (mapS (frz f) S cs).o2 fun ys S2 => some (.agg ys, S2)
    | .tup cs => (mapS (frz f) S cs).o2 fun ys S2 => some (.tup ys, S2)
    | .func g a c => (mapS (frz f) S a).o2 fun ys S2 => (mapS (frz f) S2 c).o2 fun zs S3 => some (.func g ys zs, S3)
    | .iface t x => (frz f S x).o2 fun ys S2 => some (.iface t ys, S2)
    | .nils => some (.fs [] 0, S)
    | .map _ => none
    | .pa _ _ _ => none
    | v => some (v, S)

noncomputable def frzFuel : Nat := 1000

/-- a struct that is stored: its slices are frozen, nil stays nil -/
noncomputable def frzK (S : St) : AV → Option (AV × St)
  | .ms n off len c z => frz frzFuel S (.ms n off len c z)
  | v => some (v, S)
noncomputable def frzS (S : St) (v : AV) : Option (AV × St) := some (v, S)
noncomputable def frzT (b : Bool) (S : St) (v : AV) : Option (AV × St) := bif b then frz frzFuel S v else frzS S v

/-- the parts of a literal, frozen -/
noncomputable def frzP (S : St) : List (Nat × AV) → Option (List (Nat × AV) × St)
  | [] => some ([], S)
  | p :: l => (frz frzFuel S p.2).o2 fun y S1 => (frzP S1 l).o2 fun ys S2 => some ((p.1, y) :: ys, S2)
/-- arguments, some of them frozen -/
noncomputable def frzM (m : Nat → Bool) : Nat → St → List AV → Option (List AV × St)
  | _, S, [] => some ([], S)
  | i, S, x :: xs => (frzT (m i) S x).o2 fun y S1 => (frzM m (i + 1) S1 xs).o2 fun ys S2 => some (y :: ys, S2)
noncomputable def fzArgs [Mx] (g : FuncId) (S : St) (args : List AV) : Option (List AV × St) := match Mx.fz g with
  | none => some (args, S)
  | some m => frzM m 0 S args
noncomputable def isBt [Mx] : Op → Bool
  | .buildSlice t _ _ => Mx.bt t
  | _ => false

noncomputable def appendA [Mx] (P : Program) (S : St) (t : TypeId) (x y : AV) : Option (AV × St) :=
  (te P t).ob fun e => (sliceOf e.und).ob fun elem => (te P elem).ob fun g => (chk (g.zero.cells.length.beq g.size && !g.size.beq 0)).ob fun _ =>
    (srcA S g.size y).ob fun new => (lenOfA y).ob fun m => (chk (new.all AV.one)).ob fun _ => growA S elem g new m x

inductive X where
  | n | e (id : Nat) | r

/-- the rest of a run: number of slots, code, slots, memory; all that may come of it -/
abbrev RunT := Nat → Code → Tm → St → Option (List (X × Tm × St))

noncomputable def mapO {α β : Type} (f : α → Option β) : List α → Option (List β)
  | [] => some []
  | x :: xs => (f x).ob fun y => (mapO f xs).ob fun ys => some (y :: ys)
noncomputable def catO {α β : Type} (f : α → Option (List β)) : List α → Option (List β)
  | [] => some []
  | x :: xs => (f x).ob fun y => (catO f xs).ob fun ys => some (y ++ ys)


/-! iteration over maps -/
noncomputable def rangeA (P : Program) (S : St) (t : TypeId) (x : AV) : Option (AV × St) :=
  (te P t).ob fun e => match e.und, x with
    | .map _ _, .nilm => some (.mp S.next 0, newB S (.iter none 0 [] 0))
    | .map _ _, .map n => (entriesOf S n).ob fun c => some (.mp S.next 0, newB S (.iter (some n) c.2 [] c.2))
    | _, _ => none
/-- what may come next: an entry, or the end -/
noncomputable def candA (es : List ME) (since : Nat) (seen : List Nat) : List (Option ME) :=
  let left := es.filter fun e => !seen.contains e.born
  let old := left.filter fun e => decide (e.born < since)
  let new := left.filter fun e => decide (e.born ≥ since)
  (bif old.isEmpty then [none] else []) ++ (old ++ new).map some
/-- the next entries that may come -/
noncomputable def nextA (S : St) (x : AV) : Option (List (AV × St)) :=
  match x with
  | .mp r 0 => (S.heap.get r).ob fun b => match b with
    | .iter none _ _ _ => some [(.tup [.bool false], S)]
    | .iter (some m) since seen last => (entriesOf S m).ob fun c =>
      (chk (!(!seen.isEmpty && !c.1.isEmpty && c.1.all fun e => decide (e.born ≥ last)))).ob fun _ =>
      some ((candA c.1 since seen).map fun o => match o with
        | none => (AV.tup [.bool false], S)
        | some e => (AV.tup [.bool true, e.key, e.val], { S with heap := S.heap.put r (.iter (some m) since (seen ++ [e.born]) c.2) }))
    | _ => none
  | _ => none
noncomputable def entryA (S : St) (x : AV) : Option AV :=
  match x with
  | .mp r 0 => (S.heap.get r).ob fun b => match b with
    | .iter (some m) _ seen stepped => (seen.getLast?).ob fun stamp => (entriesOf S m).ob fun c => (chk (c.2.beq stepped)).ob fun _ =>
      (c.1.find? fun e => e.born == stamp).ob fun e => some (.tup [e.key, e.val])
    | _ => none
  | _ => none

noncomputable def argsT : List AV → Nat → Tm
  | [], _ => .lf
  | v :: vs, i => (argsT vs (i + 1)).put i v

noncomputable def resA (P : Program) (T : Tm) (S : St) : ResultVar → Option AV
  | .tmp t => T.get t
  | .cell a t => (te P t).ob fun e => (T.get a).ob fun p => loadA e S p

noncomputable def ressA (P : Program) (T : Tm) (S : St) : List ResultVar → Option (List AV)
  | [] => some []
  | r :: rs => (resA P T S r).ob fun v => (ressA P T S rs).ob fun vs => some (v :: vs)

noncomputable def tupR : List AV → AV
  | [v] => v
  | vs => .tup vs

noncomputable def X.back : X → Bool
  | .e _ => false
  | _ => true

/-- a value that holds no address -/
noncomputable def flat : AV → Bool
  | .bool _ | .int _ _ | .str _ => true
  | _ => false

/-- is all that the first memory holds in the second? -/
noncomputable def sameMs : List ME → List ME → Bool
  | [], [] => true
  | a :: l, b :: m => same a.key b.key && same a.val b.val && a.born.beq b.born && sameMs l m
  | _, _ => false
noncomputable def sameAB : AB → AB → Bool
  | .cells a, .cells b => sames a b
  | .tcells t a, .tcells u b => t.beq u && sames a b
  | .ice a, .ice b => sames a b
  | .map a c, .map b d => c.beq d && sameMs a b
  | .iter m s l x, .iter m' s' l' x' => decide (m = m') && s.beq s' && decide (l = l') && x.beq x'
  | _, _ => false
noncomputable def subO : Option AB → Option AB → Bool
  | none, _ => true
  | some a, some b => sameAB a b
  | some _, none => false
noncomputable def subT : Tr AB → Tr AB → Bool
  | .lf, _ => true
  | .nd l v r, .nd l' v' r' => subO v v' && subT l l' && subT r r'
  | .nd _ _ _, .lf => false
/-- one way of a call that only looks -/
noncomputable def lookR (P : Program) (rs : List ResultVar) (S : St) (r : X × Tm × St) : Option (AV × Nat) :=
  (chk r.1.back).ob fun _ => (ressA P r.2.1 r.2.2 rs).ob fun vs => (chk (flat (tupR vs) && subT S.heap r.2.2.heap && Nat.ble S.next r.2.2.next)).ob fun _ => some (tupR vs, r.2.2.next)
/-- all its ways: the value, and the greatest name -/
noncomputable def looksR (P : Program) (rs : List ResultVar) (S : St) : List (X × Tm × St) → Option (AV × Nat)
  | [] => none
  | [r] => lookR P rs S r
  | r :: l => (lookR P rs S r).ob fun p => (looksR P rs S l).ob fun q => (chk (same p.1 q.1)).ob fun _ => some (p.1, bc (Nat.ble p.2 q.2) q.2 p.2)

/-- a call that sees the caller's memory -/
noncomputable def callN [Mx] (P : Program) (rec : RunT) (f : FuncId) (args : List AV) (S : St) : Option (AV × St) :=
  (P.funcs[f]?).ob fun fn => fn.body.ob fun c => (chk (Nat.ble args.length fn.ntmps)).ob fun _ =>
    (rec fn.ntmps c (argsT args 0) S).ob fun rs => match rs with
      | [r] => on3 (fun x T S' => (chk x.back).ob fun _ => (ressA P T S' fn.results.toList).ob fun vs => some (tupR vs, S')) r
      | rs => bif Mx.ro f then (looksR P fn.results.toList S rs).ob fun q => some (q.1, ⟨S.heap, q.2⟩) else none

/-- a call in memory of its own, and what may come of it, frozen -/
noncomputable def callM (P : Program) (rec : RunT) (f : FuncId) (args : List AV) : Option (List AV) :=
  (P.funcs[f]?).ob fun fn => fn.body.ob fun c => (chk (Nat.ble args.length fn.ntmps)).ob fun _ =>
    (rec fn.ntmps c (argsT args 0) ⟨.lf, 0⟩).ob fun rs => mapO (on3 fun x T S' => (chk x.back).ob fun _ => (ressA P T S' fn.results.toList).ob fun vs => (frz frzFuel S' (tupR vs)).o2 fun q _ => some q) rs

/-- a call as a function of name-free arguments: known, or run in memory of its own; its result is frozen -/
noncomputable def pureF [Mx] (P : Program) (rec : RunT) (f : FuncId) (args : List AV) : Option AV :=
  match Mx.x f args with
  | some q => some q
  | none => (callM P rec f args).ob fun l => match l with
    | q :: l => (chk (l.all fun x => same q x)).ob fun _ => some q
    | [] => none

noncomputable def flatT : AV → Bool
  | .tup l => l.all flat
  | _ => false
/-- a call on frozen arguments; where its result holds no address the arguments are but lent -/
noncomputable def callP [Mx] (P : Program) (rec : RunT) (f : FuncId) (args : List AV) (S : St) : Option (AV × St) :=
  (mapS (frz frzFuel) S args).o2 fun as S2 => (pureF P rec f as).ob fun q => some (q, bif flat q || (Mx.ln f && flatT q) then S else S2)

/-- a slice of at most one element -/
noncomputable def tinyS : AV → Bool
  | .nils => true
  | .ms _ _ l _ _ => Nat.ble l 1
  | .fs _ l => Nat.ble l 1
  | _ => false
/-- a call that has nothing to do: a slice of at most one element, and a function -/
noncomputable def tinyA [Mx] (f : FuncId) : List AV → Bool
  | [.iface t x, .func _ _ _] => Mx.tn f t && tinyS x
  | _ => false

noncomputable def natI : Int → Option Nat
  | .ofNat n => some n
  | .negSucc _ => none
/-- two elements of a slice change places -/
noncomputable def swapA (P : Program) (args : List AV) (S : St) : Option (AV × St) := match args with
  | [.int .i64 i, .int .i64 j, .ms n off len _ z, .adr b t] => (chk (b.beq P.globals.size)).ob fun _ => (te P t).ob fun e => (chk (e.size.beq z)).ob fun _ =>
      (natI i).ob fun i => (natI j).ob fun j => (chk (Nat.blt i len && Nat.blt j len)).ob fun _ =>
      (loadA e S (.mp n (off + i * z))).ob fun x => (loadA e S (.mp n (off + j * z))).ob fun y =>
      (storeA e S (.mp n (off + i * z)) y).ob fun S1 => (storeA e S1 (.mp n (off + j * z)) x).ob fun S2 => some (.tup [], S2)
  | _ => none
/-- a sort of a slice by a function: what sorts, and its arguments -/
noncomputable def sortQ [Mx] (P : Program) (f : FuncId) : List AV → Option (FuncId × List AV)
  | [.iface t (.ms n off len cap z), .func lf la lc] => (Mx.so f t).ob fun q => (chk (Nat.blt 1 len && Nat.blt len 4611686018427387904)).ob fun _ =>
      some (q.1, [.agg [.func lf la lc, .func q.2.1 [] [.ms n off len cap z, .adr P.globals.size q.2.2]], .int .i64 0, .int .i64 len, .int .i64 ((len.log2 + 1 : Nat) : Int)])
  | _ => none
noncomputable def unitR : Option (AV × St) → Option (AV × St)
  | some (.tup [], S) => some (.tup [], S)
  | _ => none

noncomputable def callB [Mx] (pol : FuncId → Bool) (P : Program) (rec : RunT) (f : FuncId) (args : List AV) (S : St) : Option (AV × St) :=
  bif Mx.sw f then swapA P args S else bif tinyA f args then some (.tup [], S) else match sortQ P f args with
    | some q => unitR (callN P rec q.1 q.2 S)
    | none => bif pol f then callP P rec f args S else callN P rec f args S

/-- a call: of a function without a body that is known, or of another -/
noncomputable def callA [Mx] (pol : FuncId → Bool) (P : Program) (rec : RunT) (f : FuncId) (args : List AV) (S : St) : Option (AV × St) := match Mx.ex f args with
  | some v => some (v, S)
  | none => callB pol P rec f args S

/-- the first n elements of a slice -/
noncomputable def truncA (n : Nat) : AV → Option AV
  | .nils => some .nils
  | .ms b o _ c z => some (.ms b o n c z)
  | .fs cs _ => some (.fs cs n)
  | _ => none
noncomputable def copyTo (S : St) (z n : Nat) (new : List AV) : AV → Option (AV × St)
  | .nils => some (.int .i64 n, S)
  | .fs _ 0 => some (.int .i64 n, S)
  | .ms b off _ _ z' => (chk (z.beq z')).ob fun _ => (cellsOf S b).ob fun c => (over c off new).ob fun r => some (.int .i64 n, { S with heap := S.heap.put b (.cells r) })
  | _ => none
noncomputable def copyA (P : Program) (S : St) (t : TypeId) (x y : AV) : Option (AV × St) :=
  (te P t).ob fun e => (sliceOf e.und).ob fun elem => (te P elem).ob fun g => (lenOfA x).ob fun dl => (lenOfA y).ob fun sl =>
    (truncA (bc (Nat.ble sl dl) sl dl) y).ob fun y' => (srcA S g.size y').ob fun new => (chk (new.all AV.one)).ob fun _ => copyTo S g.size (bc (Nat.ble sl dl) sl dl) new x

/-- the address of a slice's first element -/
noncomputable def dataA : AV → Option AV
  | .ms n off (_ + 1) _ _ => some (.mp n off)
  | _ => none
/-- the bytes of a row as a string; the row is given up -/
noncomputable def ustrA (P : Program) (S : St) (pt : TypeId) : AV → AV → Option (AV × St)
  | .mp n 0, .int .i64 (.ofNat m) => (te P pt).ob fun e => match e.und with
    | .pointer el => (cellsOf S n).ob fun cs => (chk (typed S n el && (P.cellsOf el).beq 1 && Nat.blt 0 m && Nat.ble m cs.length && Nat.ble m big)).ob fun _ =>
        (bytesOfA (cs.take m)).ob fun bs => some (.str ⟨bs.toArray⟩, { S with heap := S.heap.del n })
    | _ => none
  | _, _ => none
noncomputable def builtinA [Mx] (P : Program) (b : Builtin) (ts : List TypeId) (args : List AV) (S : St) : Option (AV × St) :=
  match b, args, ts with
  | .len, [x], t :: _ => (lenA P S t x).ob fun v => some (v, S)
  | .append, [x, y], [t, u] => (te P u).ob fun ue => match ue.und with
    | .int _ => none
    | _ => appendA P S t x y
  | .copy, [x, y], [t, _] => copyA P S t x y
  | .unsafeSliceData, [x], _ => (dataA x).ob fun v => some (v, S)
  | .unsafeString, [x, y], [t, _] => ustrA P S t x y
  | .max, l, _ => (maxA l).ob fun v => some (v, S)
  | .min, l, _ => (minA l).ob fun v => some (v, S)
  | _, _, _ => none

/-- an array that is built as a row -/
noncomputable def allocArr (P : Program) (e : TE) (S : St) : Option (AV × St) := match e.und with
  | .array m el => (te P el).ob fun g => (chk (e.zero.cells.length.beq (m * g.size))).ob fun _ => some (.pa S.next m g.size, newB S (.cells e.zero.cells))
  | _ => none

/-- what an operation does -/
structure OpF where
  f : RunT → Tm → St → Option (AV × St)

noncomputable def aOp [Gl] [Mx] (pol : FuncId → Bool) (P : Program) (o : Op) : OpF :=
  match o with
  | .move x => ⟨fun _ T S => (ev T x).ob fun v => some (v, S)⟩
  | .assign x => ⟨fun _ T S => (ev T x).ob fun v => some (v, S)⟩
  | .pick c a b => ⟨fun _ T S => (ev T c).ob fun c => match c with
    | .bool true => (ev T a).ob fun v => some (v, S)
    | .bool false => (ev T b).ob fun v => some (v, S)
    | _ => none⟩
  | .alloc t => match te P t with
    | some e => bif Mx.ar t then ⟨fun _ _ S => allocArr P e S⟩ else ⟨fun _ _ S => some (.mp S.next 0, newB S (rowB (Mx.ty t) t e.zero.cells))⟩
    | none => ⟨fun _ _ _ => none⟩
  | .box t x => match te P t with
    | some _ => ⟨fun _ T S => (ev T x).ob fun v => some (.mp S.next 0, newB S (.cells v.cells))⟩
    | none => ⟨fun _ _ _ => none⟩
  | .build t ps => ⟨fun _ T S => (evp T ps.toList).ob fun vs => (buildA P t vs).ob fun v => some (v, S)⟩
  | .buildSlice t n ps => ⟨fun _ T S => (evp T ps.toList).ob fun vs => bc (Mx.bt t) ((frzP S vs).ob fun q => buildSliceA P q.2 t n q.1) (buildSliceA P S t n vs)⟩
  | .load t a => match te P t with
    | some e => ⟨fun _ T S => (ev T a).ob fun p => (loadA e S p).ob fun v => some (v, S)⟩
    | none => ⟨fun _ _ _ => none⟩
  | .store t a x => match te P t with
    | some e => ⟨fun _ T S => (ev T a).ob fun p => (ev T x).ob fun v => (frzT (Mx.st t a x) S v).o2 fun u S2 => (storeA e S2 p u).ob fun S' => some (.tup [], S')⟩
    | none => ⟨fun _ _ _ => none⟩
  | .nilCheck x => ⟨fun _ T S => (ev T x).ob fun v => match v with
    | .nilp | .nili | .nilf => none
    | v => some (v, S)⟩
  | .binOp op t x y _ => ⟨fun _ T S => (ev T x).ob fun a => (ev T y).ob fun b => (binA P op t x y a b).ob fun v => some (v, S)⟩
  | .unOp op _ x => ⟨fun _ T S => (ev T x).ob fun a => (unA op a).ob fun v => some (v, S)⟩
  | .convert s d x => ⟨fun _ T S => (ev T x).ob fun a => (convA P S s d a).ob fun v => some (v, S)⟩
  | .makeInterface t x => ⟨fun _ T S => (te P t).ob fun e => (ev T x).ob fun v => match e.und with
    | .interface _ => none
    | _ => some (.iface t v, S)⟩
  | .makeFunc fn f c => ⟨fun _ T S => match fn with
    | .func g => (evs T f.toList).ob fun f => (evs T c.toList).ob fun c => some (.func g f c, S)
    | _ => none⟩
  | .makeMap _ r => ⟨fun _ _ S => (chk r.isNone).ob fun _ => some (.map S.next, newB S (.map [] 0))⟩
  | .makeSlice t l c => ⟨fun _ T S => (ev T l).ob fun l => (ev T c).ob fun c => makeSliceA P S t l c⟩
  | .slice t x lo hi mx => ⟨fun _ T S => (ev T x).ob fun a => (sliceX P S T t a lo hi mx).ob fun v => some (v, S)⟩
  | .fieldAddr s x f => ⟨fun _ T S => (ev T x).ob fun a => (fieldAddrA P s a f).ob fun v => some (v, S)⟩
  | .field s x f => ⟨fun _ T S => (ev T x).ob fun a => (fieldA P s a f).ob fun v => some (v, S)⟩
  | .indexAddr t x i => ⟨fun _ T S => (ev T x).ob fun a => (ev T i).ob fun i => (indexAddrA P t a i).ob fun v => some (v, S)⟩
  | .index t x i => ⟨fun _ T S => (ev T x).ob fun a => (ev T i).ob fun i => (indexA P t a i).ob fun v => some (v, S)⟩
  | .lookup t x i ok => ⟨fun _ T S => (ev T x).ob fun a => (ev T i).ob fun i => (lookupA P S t a i ok).ob fun v => some (v, S)⟩
  | .mapUpdate t m k x => ⟨fun _ T S => (ev T m).ob fun m => (ev T k).ob fun k => (ev T x).ob fun v => (mapUpdA P S t m k v).ob fun S' => some (.tup [], S')⟩
  | .insert t m k x => ⟨fun _ T S => (ev T m).ob fun m => (ev T k).ob fun k => (ev T x).ob fun v => (mapUpdA P S t m k v).ob fun S' => some (.tup [], S')⟩
  | .mapEntry t m k => ⟨fun _ T S => (ev T m).ob fun m => (ev T k).ob fun k => mapEntA P S t m k⟩
  | .entryStore _ m s x => ⟨fun _ T S => (ev T m).ob fun m => (ev T s).ob fun s => (ev T x).ob fun v => (entStA S m s v).ob fun S' => some (.tup [], S')⟩
  | .range t x => ⟨fun _ T S => (ev T x).ob fun v => rangeA P S t v⟩
  | .entry x => ⟨fun _ T S => (ev T x).ob fun v => (entryA S v).ob fun u => some (u, S)⟩
  | .extract t i => ⟨fun _ T S => (ev T t).ob fun t => match t with
    | .tup vs => (vs[i]?).ob fun v => some (v, S)
    | _ => none⟩
  | .call c => match c.callee with
    | .builtin b => ⟨fun _ T S => (evs T c.args.toList).ob fun args => builtinA P b c.argTypes.toList args S⟩
    | .value f => ⟨fun rec T S => (evs T c.args.toList).ob fun args => (ev T f).ob fun f => match f with
      | .func g first cap => (fzArgs g S (first ++ args ++ cap)).o2 fun as S2 => callA pol P rec g as S2
      | _ => none⟩
    | .invoke _ _ => ⟨fun _ _ _ => none⟩
  | _ => ⟨fun _ _ _ => none⟩

/-- is the operation's guard met? -/
noncomputable def wantA (ops : List Oper) (T : Tm) (o : Oper) : Option Bool :=
  match o.guard with
  | none => some true
  | some (j, w) => match (ops[j]?).ob (·.dst) with
    | none => some false
    | some d => (T.get d).ob fun v => match v with
      | .bool b => some (b == w)
      | _ => some false

noncomputable def putA (nt : Nat) (T : Tm) (dst : Option Tmp) (v : AV) : Option Tm :=
  match dst with
  | none => some T
  | some d => (chk (Nat.blt d nt)).ob fun _ => some (T.put d v)

structure CodeF where
  f : RunT → Nat → Tm → St → Option (Tm × St)

noncomputable def opsA [Gl] [Mx] (pol : FuncId → Bool) (P : Program) (all : List Oper) : List Oper → CodeF
  | [] => ⟨fun _ _ T S => some (T, S)⟩
  | o :: l => match o.guard with
    | none => ⟨fun rec nt T S => ((aOp pol P o.op).f rec T S).o2 fun v S' => (chk (Nat.ble S.next S'.next)).ob fun _ => (putA nt T o.dst v).ob fun T' => (opsA pol P all l).f rec nt T' S'⟩
    | some _ => ⟨fun rec nt T S => (wantA all T o).ob fun w =>
        bc w (((aOp pol P o.op).f rec T S).o2 fun v S' => (chk (Nat.ble S.next S'.next)).ob fun _ => (putA nt T o.dst v).ob fun T' => (opsA pol P all l).f rec nt T' S')
        ((putA nt T o.dst (.tup [])).ob fun T' => (opsA pol P all l).f rec nt T' S)⟩

/-! regions that draw their order -/
inductive Cls where
  | pure | pcall | read | alloc | loc | write

noncomputable def polO (pol : FuncId → Bool) : Operand → Bool
  | .func f => pol f
  | _ => false

noncomputable def cls (pol : FuncId → Bool) : Op → Cls
  | .slice _ _ lo hi mx => bif allN lo hi mx then .write else .pure
  | .move _ | .assign _ | .pick .. | .build .. | .nilCheck _ | .binOp .. | .unOp .. | .makeInterface .. | .makeFunc .. | .fieldAddr .. | .field ..
  | .indexAddr .. | .index .. | .extract .. => .pure
  | .load .. | .lookup .. | .convert .. => .read
  | .alloc _ | .box .. | .buildSlice .. | .makeSlice .. | .makeMap .. => .alloc
  | .store .. | .mapUpdate .. | .mapEntry .. | .entryStore .. | .insert .. => .loc
  | .call c => match c.callee with
    | .builtin .len => .read
    | .builtin .max | .builtin .min => .pure
    | .builtin .append => .loc
    | .value f => bif polO pol f then .pcall else .write
    | _ => .write
  | _ => .write

noncomputable def nameOf : AV → List Nat
  | .mp n _ => [n]
  | .ms n _ _ _ _ => [n]
  | .map n => [n]
  | _ => []

/-- the blocks that a reading operation looks at -/
noncomputable def foot [Gl] (T : Tm) : Op → List Nat
  | .load _ a => match ev T a with | some v => nameOf v | none => []
  | .lookup _ x _ _ => match ev T x with | some v => nameOf v | none => []
  | .convert _ _ x => match ev T x with | some v => nameOf v | none => []
  | .call c => match c.args.toList with
    | [x] => match ev T x with | some (.map n) => [n] | _ => []
    | _ => []
  | _ => []

/-- the blocks that an append works on -/
noncomputable def footL [Gl] (T : Tm) : Op → List Nat
  | .store _ a _ => match ev T a with | some v => nameOf v | none => []
  | .mapUpdate _ m _ _ | .mapEntry _ m _ | .entryStore _ m _ _ | .insert _ m _ _ => match ev T m with | some v => nameOf v | none => []
  | .call c => match evs T c.args.toList with | some vs => vs.flatMap nameOf | none => []
  | _ => []

structure PS where
  i : Nat
  hide : List Nat
  lg : Bool
  c : Cls

noncomputable def restrict (h : Tr AB) : List Nat → Tr AB
  | [] => .lf
  | n :: ns => match h.get n with
    | some b => (restrict h ns).put n b
    | none => restrict h ns

noncomputable def dels (h : Tr AB) : List Nat → Tr AB
  | [] => h
  | n :: ns => (dels h ns).del n

/-- lay the blocks of old at these names over h -/
noncomputable def back (old h : Tr AB) : List Nat → Tr AB
  | [] => h
  | n :: ns => (back old h ns).setP (old.get n) (pathOf n)

/-- lay the blocks that old has at these names over h -/
noncomputable def lay (old h : Tr AB) : List Nat → Tr AB
  | [] => h
  | n :: ns => match old.get n with
    | some b => (lay old h ns).put n b
    | none => lay old h ns


/-- what a region has done so far: an operation, the blocks that it looked at or made or changed; for a reading one: would it read the same now? -/
structure LE where
  i : Nat
  ns : List Nat
  re : Option (Tr AB → Bool)

noncomputable def logged (log : List LE) (hide : List Nat) : List Nat :=
  (log.filter fun p => hide.contains p.i && p.re.isNone).flatMap (·.ns)

noncomputable def reads (log : List LE) (hide : List Nat) (h : Tr AB) : Bool :=
  log.all fun p => match p.re with
    | some r => !hide.contains p.i || r h
    | none => true

noncomputable def reOf [Gl] [Mx] (P : Program) (o : Op) (T : Tm) (ns : List Nat) (m : Nat) (v : AV) (h : Tr AB) : Bool :=
  match (aOp (fun _ => false) P o).f (fun _ _ _ _ => none) T ⟨restrict h ns, m⟩ with
  | some (u, _) => same v u
  | none => false

noncomputable def old (log : List LE) (hide : List Nat) (m : Nat) : Bool := log.all fun q => !hide.contains q.i || q.ns.all fun n => Nat.blt n m

noncomputable def note (lg : Bool) (e : LE) (log : List LE) : List LE := bif lg then e :: log else log

noncomputable def names (x y : Nat) : List Nat := List.range' x (y - x)

structure PlanF where
  f : RunT → Nat → List LE → Tm → St → Option (Tm × St)

noncomputable def planA [Gl] [Mx] (pol : FuncId → Bool) (P : Program) (all : List Oper) : List PS → PlanF
  | [] => ⟨fun _ _ _ T S => some (T, S)⟩
  | p :: l => match all[p.i]? with
    | none => ⟨fun _ _ _ _ _ => none⟩
    | some o => match p.c with
      | .pure => ⟨fun rec nt log T S => (wantA all T o).ob fun w => bc w
          (((aOp pol P o.op).f rec T S).o2 fun v _ => (putA nt T o.dst v).ob fun T' => (planA pol P all l).f rec nt log T' S)
          ((putA nt T o.dst (.tup [])).ob fun T' => (planA pol P all l).f rec nt log T' S)⟩
      | .pcall => ⟨fun rec nt log T S => (wantA all T o).ob fun w => bc w
          (((aOp pol P o.op).f rec T ⟨.lf, S.next⟩).o2 fun v S' => (chk (S'.next.beq S.next)).ob fun _ => (putA nt T o.dst v).ob fun T' => (planA pol P all l).f rec nt log T' S)
          ((putA nt T o.dst (.tup [])).ob fun T' => (planA pol P all l).f rec nt log T' S)⟩
      | .read => ⟨fun rec nt log T S => (wantA all T o).ob fun w => bc w
          ((chk ((foot T o.op).all fun n => !(logged log p.hide).contains n)).ob fun _ =>
          ((aOp pol P o.op).f rec T S).o2 fun v _ =>
          (putA nt T o.dst v).ob fun T' => (planA pol P all l).f rec nt (note p.lg ⟨p.i, foot T o.op, some (reOf P o.op T (foot T o.op) S.next v)⟩ log) T' S)
          ((putA nt T o.dst (.tup [])).ob fun T' => (planA pol P all l).f rec nt log T' S)⟩
      | .alloc => ⟨fun rec nt log T S => (wantA all T o).ob fun w => bc w
          ((chk (!isBt o.op && old log p.hide S.next)).ob fun _ => ((aOp pol P o.op).f rec T S).o2 fun v S' =>
          (putA nt T o.dst v).ob fun T' => (planA pol P all l).f rec nt (note p.lg ⟨p.i, [S.next], none⟩ log) T' S')
          ((putA nt T o.dst (.tup [])).ob fun T' => (planA pol P all l).f rec nt log T' S)⟩
      | .loc => ⟨fun rec nt log T S => (wantA all T o).ob fun w => bc w
          ((chk (old log p.hide S.next && (footL T o.op).all fun n => !(logged log p.hide).contains n)).ob fun _ =>
          ((aOp pol P o.op).f rec T ⟨restrict S.heap (footL T o.op), S.next⟩).o2 fun v S' => (chk (Nat.ble S.next S'.next)).ob fun _ =>
          (chk (reads log p.hide (lay S'.heap (back S'.heap S.heap (footL T o.op)) (names S.next S'.next)))).ob fun _ =>
          (putA nt T o.dst v).ob fun T' => (planA pol P all l).f rec nt (note p.lg ⟨p.i, footL T o.op ++ names S.next S'.next, none⟩ log) T' ⟨lay S'.heap (back S'.heap S.heap (footL T o.op)) (names S.next S'.next), S'.next⟩)
          ((putA nt T o.dst (.tup [])).ob fun T' => (planA pol P all l).f rec nt log T' S)⟩
      | .write => ⟨fun rec nt log T S => (wantA all T o).ob fun w => bc w
          (((aOp pol P o.op).f rec T ⟨dels S.heap (logged log p.hide), S.next⟩).o2 fun v S' => (chk (Nat.ble S.next S'.next)).ob fun _ =>
          (chk (reads log p.hide (back S.heap S'.heap (logged log p.hide)))).ob fun _ =>
          (putA nt T o.dst v).ob fun T' => (planA pol P all l).f rec nt log T' ⟨back S.heap S'.heap (logged log p.hide), S'.next⟩)
          ((putA nt T o.dst (.tup [])).ob fun T' => (planA pol P all l).f rec nt log T' S)⟩

structure StepF where
  f : RunT → Nat → Tm → St → Option (List (X × Tm × St))

/-- a region in the order of the text; where it begins with a step of an iteration, each entry that may come -/
noncomputable def regA [Gl] [Mx] (pol : FuncId → Bool) (P : Program) (ops : List Oper) : StepF :=
  match ops with
  | [] => ⟨fun _ _ T S => some [(.n, T, S)]⟩
  | o :: l => match o.op, o.guard with
    | .next x false, none => ⟨fun rec nt T S => (ev T x).ob fun v => (nextA S v).ob fun outs => mapO (fun r => (putA nt T o.dst r.1).ob fun T' => ((opsA pol P ops l).f rec nt T' r.2).o2 fun T2 S2 => (chk (Nat.ble S.next S2.next)).ob fun _ => some (.n, T2, S2)) outs⟩
    | _, _ => ⟨fun rec nt T S => ((opsA pol P ops ops).f rec nt T S).o2 fun T2 S2 => some [(.n, T2, S2)]⟩

noncomputable def runF [Gl] [Mx] (pol : FuncId → Bool) (pl : List Oper → Option (List PS)) (P : Program) (c : Code) : StepF :=
  match c with
  | .skip => ⟨fun _ _ T S => some [(.n, T, S)]⟩
  | .region _ ops d =>
    bif d then match pl ops.toList with
      | some p => ⟨fun rec nt T S => ((planA pol P ops.toList p).f rec nt [] T S).o2 fun T2 S2 => some [(.n, T2, S2)]⟩
      | none => ⟨fun _ _ _ _ => none⟩
    else regA pol P ops.toList
  | .seq a b => ⟨fun rec nt T S => (rec nt a T S).ob fun rs => catO (on3 fun x T S => match x with
    | .n => rec nt b T S
    | x => some [(x, T, S)]) rs⟩
  | .cond c a b => ⟨fun rec nt T S => (ev T c).ob fun v => match v with
    | .bool true => rec nt a T S
    | .bool false => rec nt b T S
    | _ => none⟩
  | .block id b => ⟨fun rec nt T S => (rec nt b T S).ob fun rs => some (rs.map (on3 fun x T S => match x with
    | .e i => bif i.beq id then (.n, T, S) else (.e i, T, S)
    | x => (x, T, S)))⟩
  | .loop b => ⟨fun rec nt T S => (rec nt b T S).ob fun rs => catO (on3 fun x T S => match x with
    | .n => rec nt (.loop b) T S
    | x => some [(x, T, S)]) rs⟩
  | .exit id => ⟨fun _ _ T S => some [(.e id, T, S)]⟩
  | .ret => ⟨fun _ _ T S => some [(.r, T, S)]⟩
  | _ => ⟨fun _ _ _ _ => none⟩

noncomputable def run [Gl] [Mx] (pol : FuncId → Bool) (pl : List Oper → Option (List PS)) (P : Program) (n : Nat) : RunT :=
  Nat.rec (motive := fun _ => RunT) (fun _ _ _ _ => none) (fun _ ih nt c T S => (runF pol pl P c).f ih nt T S) n

/-! the plan of a region -/
noncomputable def bindsA (e : Edge) : Bool := match e.ground with
  | .textOnly _ | .gcOnly _ => false
  | _ => true

/-- bit c of the i-th number: operation c must come before i -/
noncomputable def befores : List Oper → List Nat → List Nat
  | [], acc => acc
  | o :: l, acc => befores l (acc ++ [o.after.toList.foldl (fun s e => bif bindsA e then s ||| (1 <<< e.on) ||| (acc.getD e.on 0) else s) 0])

/-- must c, planned ahead of i and not ordered with it, be looked after when i runs? none: the two may not stand unordered -/
noncomputable def pairC : Cls → Cls → Option Bool
  | .pure, _ | .pcall, _ | _, .pure | _, .pcall => some false
  | .read, .read => some false
  | .read, .alloc | .read, .loc | .read, .write => some true
  | .alloc, .read | .loc, .read => some true
  | .alloc, .alloc => some false
  | .loc, .alloc | .alloc, .loc | .alloc, .write | .loc, .loc | .loc, .write => some true
  | .write, _ => none

/-- a literal with a call's answer in it: it may freeze what the call made -/
noncomputable def litCall (all : List (Nat × Oper)) : Op → Bool
  | .buildSlice _ _ ps => ps.toList.any fun p => match p.2 with
    | .tmp t => all.any fun q => (match q.2.dst with | some d => d.beq t | none => false) && (match q.2.op with | .call _ => true | _ => false)
    | _ => false
  | _ => false
/-- how an operation of a region is taken: as what it is, or, where nothing disturbs it, as one that may write everything -/
noncomputable def modeOf (pol : FuncId → Bool) (bs : List Nat) (all : List (Nat × Oper)) (i : Nat) (o : Oper) : Cls :=
  match cls pol o.op with
  | .pcall | .loc => bif all.all (fun q => q.1.beq i || (bs.getD i 0).testBit q.1 || (bs.getD q.1 0).testBit i || (match cls pol q.2.op with | .pure => true | .read => true | .alloc => true | _ => false)) then .write else cls pol o.op
  | .alloc => bif litCall all o.op && (all.all (fun q => q.1.beq i || (bs.getD i 0).testBit q.1 || (bs.getD q.1 0).testBit i || (match cls pol q.2.op with | .pure => true | .read => true | .alloc => true | _ => false))) then .write else .alloc
  | c => c

noncomputable def rank : Cls → Nat
  | .loc => 1
  | .write => 2
  | _ => 0

noncomputable def hideOf (bs : List Nat) (done : List (Nat × Cls)) (i : Nat) (c : Cls) : List Nat :=
  (done.filter fun p => !(bs.getD i 0).testBit p.1 && (pairC p.2 c == some true)).map (·.1)

/-- the next operation: the first of the lowest rank whose predecessors are done -/
noncomputable def pickNext (bs : List Nat) (done left : List (Nat × Cls)) : Option (Nat × Cls) :=
  let mask := done.foldl (fun s p => s ||| (1 <<< p.1)) 0
  let ready := left.filter fun p => ((bs.getD p.1 0) &&& mask) == bs.getD p.1 0
  match ready.find? fun p => (rank p.2).beq 0 with
  | some p => some p
  | none => match ready.find? fun p => (rank p.2).beq 1 with
    | some p => some p
    | none => ready.head?

noncomputable def planFrom (bs : List Nat) : Nat → List (Nat × Cls) → List (Nat × Cls) → List PS
  | 0, _, _ => []
  | f + 1, done, left => match pickNext bs done left with
    | none => []
    | some p => ⟨p.1, hideOf bs done p.1 p.2, false, p.2⟩ :: planFrom bs f (done ++ [p]) (left.filter fun q => !q.1.beq p.1)

/-- which operations must be noted: those that a later one looks after -/
noncomputable def planFix : List PS → List PS
  | [] => []
  | p :: l => { p with lg := l.any fun q => q.hide.contains p.i } :: planFix l

/-- may c, which stands ahead of p in the plan, come behind p as well? -/
noncomputable def pairOk (all : List Oper) (bs : List Nat) (c p : PS) : Bool :=
  (bs.getD p.i 0).testBit c.i ||
  match all[c.i]?, all[p.i]? with
  | some oc, some oi => Oper.apart all.toArray oc oi && (match pairC c.c p.c with
    | none => false
    | some b => !b || (p.hide.contains c.i && c.lg))
  | _, _ => false

noncomputable def modeOk : Cls → Cls → Bool
  | _, .write => true
  | .pure, .pure | .pcall, .pcall | .read, .read | .alloc, .alloc | .loc, .loc => true
  | _, _ => false

noncomputable def planOkB (pol : FuncId → Bool) (all : List Oper) (bs : List Nat) : List PS → List PS → Bool
  | done, [] => done.length.beq all.length && (List.range all.length).all fun i => (done.map (·.i)).contains i
  | done, p :: l => Nat.blt p.i all.length && !(done.map (·.i)).contains p.i &&
      (match all[p.i]? with
        | some o => modeOk (cls pol o.op) p.c && o.after.toList.all fun e => !bindsA e || (done.map (·.i)).contains e.on
        | none => false) &&
      done.all (fun c => pairOk all bs c p) && planOkB pol all bs (p :: done) l

noncomputable def planOf (pol : FuncId → Bool) (l : List Oper) : Option (List PS) :=
  let bs := befores l []
  let all := l.zipIdx.map fun p => (p.2, p.1)
  let p := planFix (planFrom bs l.length [] (all.map fun q => (q.1, modeOf pol bs all q.1 q.2)))
  bif planOkB pol l bs [] p then some p else none

end Go.Eng
namespace Go.Eng
set_option linter.unusedSectionVars false
variable [Gl] [Mx]

/-- Ghosts: which names are in use, where each lies (block, shift, the block's number of cells), and what lies in the blocks that nobody writes any more. -/
structure Gh where
  dom : Nat → Prop
  blk : Nat → Nat
  sh : Nat → Nat
  bsz : Nat → Nat
  prot : Nat → Option (Array Value)

/-- the ghosts without names: what holds by them holds of memory that nobody writes any more -/
def Gh.ice (E : Gh) : Gh := { E with dom := fun _ => False }

mutual
def VR (E : Gh) : AV → Value → Prop
  | .bool b, v => v = .bool b
  | .int k n, v => v = .int k n
  | .str s, v => v = .string s
  | .nilp, v => v = .pointer none
  | .mp n off, v => E.dom n ∧ v = .pointer (some ⟨E.blk n, E.sh n + off, none⟩)
  | .pa n len z, v => E.dom n ∧ v = .pointer (some ⟨E.blk n, E.sh n, none⟩) ∧ E.sh n + len * z ≤ E.bsz n
  | .fp cs, v => ∃ b o, v = .pointer (some ⟨b, o, none⟩) ∧ ∃ arr, E.prot b = some arr ∧ VRP E.ice cs (arr.toList.drop o)
  | .nils, v => v = .slice none 0 0
  | .ms n off len cap z, v => E.dom n ∧ ∃ c, v = .slice (some ⟨E.blk n, E.sh n + off, none⟩) len c ∧ len ≤ c ∧ E.sh n + off + c * z ≤ E.bsz n ∧ (∀ k, cap = some k → c = k)
  | .fs cs len, v => (∃ b o sp c, v = .slice (some ⟨b, o, sp⟩) len c ∧ len ≤ c ∧ (cs = [] ∨ (sp = none ∧ ∃ arr, E.prot b = some arr ∧ VRP E.ice cs (arr.toList.drop o)))) ∨ (cs = [] ∧ len = 0 ∧ v = .slice none 0 0)
  | .nilm, v => v = .map none
  | .map n, v => E.dom n ∧ v = .map (some (E.blk n))
  | .nilf, v => v = .nilFunc
  | .func f a c, v => ∃ a' c', v = .func (.func f) a' c' ∧ (VRP E a a'.toList ∧ a.length = a'.size) ∧ (VRP E c c'.toList ∧ c.length = c'.size)
  | .nili, v => v = .nilIface
  | .iface t x, v => ∃ y, v = .iface t y ∧ VR E x y
  | .agg cs, v => ∃ a, v = .agg a ∧ VRP E cs a.toList ∧ cs.length = a.size
  | .tup cs, v => ∃ a, v = .tuple a ∧ VRP E cs a.toList ∧ cs.length = a.size
  | .adr b o, v => v = .pointer (some ⟨b, o, none⟩)
def VRP (E : Gh) : List AV → List Value → Prop
  | [], _ => True
  | _ :: _, [] => False
  | x :: xs, v :: vs => VR E x v ∧ VRP E xs vs
end

structure Ext (E E' : Gh) : Prop where
  dom : ∀ n, E.dom n → E'.dom n
  blk : ∀ n, E.dom n → E'.blk n = E.blk n
  sh : ∀ n, E.dom n → E'.sh n = E.sh n
  bsz : ∀ n, E.dom n → E'.bsz n = E.bsz n
  prot : ∀ b arr, E.prot b = some arr → E'.prot b = some arr

theorem Ext.refl (E : Gh) : Ext E E := ⟨fun _ h => h, fun _ _ => rfl, fun _ _ => rfl, fun _ _ => rfl, fun _ _ h => h⟩
theorem Ext.trans {E E' E'' : Gh} (h : Ext E E') (h' : Ext E' E'') : Ext E E'' :=
  ⟨fun n d => h'.dom n (h.dom n d), fun n d => (h'.blk n (h.dom n d)).trans (h.blk n d), fun n d => (h'.sh n (h.dom n d)).trans (h.sh n d),
    fun n d => (h'.bsz n (h.dom n d)).trans (h.bsz n d), fun b arr hp => h'.prot b arr (h.prot b arr hp)⟩

theorem Ext.ice {E E' : Gh} (h : Ext E E') : Ext E.ice E'.ice :=
  ⟨fun _ d => d.elim, fun _ d => d.elim, fun _ d => d.elim, fun _ d => d.elim, h.prot⟩
theorem Ext.ofIce (E : Gh) : Ext E.ice E := ⟨fun _ d => d.elim, fun _ d => d.elim, fun _ d => d.elim, fun _ d => d.elim, fun _ _ h => h⟩
/-- by ghosts without names only the frozen blocks count -/
theorem Ext.iceOf {E E' : Gh} (h : ∀ b arr, E.prot b = some arr → E'.prot b = some arr) : Ext E.ice E' :=
  ⟨fun _ d => d.elim, fun _ d => d.elim, fun _ d => d.elim, fun _ d => d.elim, h⟩

mutual
theorem VR.mono {E E' : Gh} (h : Ext E E') : ∀ (a : AV) (v : Value), VR E a v → VR E' a v
  | .bool _, _, hv => hv
  | .int _ _, _, hv => hv
  | .str _, _, hv => hv
  | .nilp, _, hv => hv
  | .mp n off, v, hv => by
    simp only [VR] at hv ⊢
    exact ⟨h.dom n hv.1, by rw [h.blk n hv.1, h.sh n hv.1]; exact hv.2⟩
  | .pa n len z, v, hv => by
    simp only [VR] at hv ⊢
    obtain ⟨d, e, hl⟩ := hv
    exact ⟨h.dom n d, by rw [h.blk n d, h.sh n d]; exact e, by rw [h.sh n d, h.bsz n d]; exact hl⟩
  | .fp cs, v, hv => by
    simp only [VR] at hv ⊢
    obtain ⟨b, o, e, arr, hp, hr⟩ := hv
    exact ⟨b, o, e, arr, h.prot b arr hp, VRP.mono h.ice cs _ hr⟩
  | .nils, _, hv => hv
  | .ms n off len cap z, v, hv => by
    simp only [VR] at hv ⊢
    obtain ⟨d, c, e, hl, hr, hc⟩ := hv
    exact ⟨h.dom n d, c, by rw [h.blk n d, h.sh n d]; exact e, hl, by rw [h.sh n d, h.bsz n d]; exact hr, hc⟩
  | .fs cs len, v, hv => by
    simp only [VR] at hv ⊢
    rcases hv with ⟨b, o, sp, c, e, hl, hr⟩ | hv
    · refine .inl ⟨b, o, sp, c, e, hl, ?_⟩
      rcases hr with hr | ⟨hs, arr, hp, hr⟩
      · exact .inl hr
      · exact .inr ⟨hs, arr, h.prot b arr hp, VRP.mono h.ice cs _ hr⟩
    · exact .inr hv
  | .nilm, _, hv => hv
  | .map n, v, hv => by
    simp only [VR] at hv ⊢
    exact ⟨h.dom n hv.1, by rw [h.blk n hv.1]; exact hv.2⟩
  | .nilf, _, hv => hv
  | .func f a c, v, hv => by
    simp only [VR] at hv ⊢
    obtain ⟨a', c', e, ⟨h1, h2⟩, h3, h4⟩ := hv
    exact ⟨a', c', e, ⟨VRP.mono h a _ h1, h2⟩, VRP.mono h c _ h3, h4⟩
  | .nili, _, hv => hv
  | .iface t x, v, hv => by
    simp only [VR] at hv ⊢
    obtain ⟨y, e, hy⟩ := hv
    exact ⟨y, e, VR.mono h x y hy⟩
  | .agg cs, v, hv => by
    simp only [VR] at hv ⊢
    obtain ⟨a, e, h1, h2⟩ := hv
    exact ⟨a, e, VRP.mono h cs _ h1, h2⟩
  | .adr _ _, _, hv => hv
  | .tup cs, v, hv => by
    simp only [VR] at hv ⊢
    obtain ⟨a, e, h1, h2⟩ := hv
    exact ⟨a, e, VRP.mono h cs _ h1, h2⟩
theorem VRP.mono {E E' : Gh} (h : Ext E E') : ∀ (a : List AV) (v : List Value), VRP E a v → VRP E' a v
  | [], _, _ => by simp only [VRP]
  | _ :: _, [], hv => by simp only [VRP] at hv
  | x :: xs, v :: vs, hv => by
    simp only [VRP] at hv ⊢
    exact ⟨VR.mono h x v hv.1, VRP.mono h xs vs hv.2⟩
end

/-! lists of values -/
theorem VRP.nil {E : Gh} {vs : List Value} : VRP E [] vs := by simp only [VRP]
theorem VRP.cons_iff {E : Gh} {x : AV} {xs : List AV} {v : Value} {vs : List Value} : VRP E (x :: xs) (v :: vs) ↔ VR E x v ∧ VRP E xs vs := by simp only [VRP]
theorem VRP.len {E : Gh} : ∀ {xs : List AV} {vs : List Value}, VRP E xs vs → xs.length ≤ vs.length
  | [], _, _ => Nat.zero_le _
  | _ :: _, [], h => by simp only [VRP] at h
  | _ :: xs, _ :: vs, h => by simp only [VRP] at h; exact Nat.succ_le_succ (VRP.len h.2)
theorem VRP.get {E : Gh} : ∀ {xs : List AV} {vs : List Value}, VRP E xs vs → ∀ {i : Nat} {x : AV}, xs[i]? = some x → ∃ v, vs[i]? = some v ∧ VR E x v
  | [], _, _, i, x, hi => by simp at hi
  | _ :: _, [], h, _, _, _ => by simp only [VRP] at h
  | y :: xs, v :: vs, h, 0, x, hi => by
    simp only [VRP] at h
    simp at hi; subst hi
    exact ⟨v, rfl, h.1⟩
  | y :: xs, v :: vs, h, i + 1, x, hi => by
    simp only [VRP] at h
    simp at hi
    obtain ⟨u, hu, hr⟩ := VRP.get h.2 hi
    exact ⟨u, by simpa using hu, hr⟩
theorem VRP.drop {E : Gh} : ∀ (n : Nat) {xs : List AV} {vs : List Value}, VRP E xs vs → VRP E (xs.drop n) (vs.drop n)
  | 0, _, _, h => h
  | _ + 1, [], _, _ => by simp only [List.drop_nil]; exact VRP.nil
  | _ + 1, _ :: _, [], h => by simp only [VRP] at h
  | n + 1, _ :: xs, _ :: vs, h => by simp only [VRP] at h; simpa using VRP.drop n h.2
theorem VRP.take {E : Gh} : ∀ (n : Nat) {xs : List AV} {vs : List Value}, VRP E xs vs → VRP E (xs.take n) vs
  | 0, _, _, _ => by simp only [List.take_zero]; exact VRP.nil
  | _ + 1, [], _, _ => by simp only [List.take_nil]; exact VRP.nil
  | _ + 1, _ :: _, [], h => by simp only [VRP] at h
  | n + 1, _ :: xs, _ :: vs, h => by simp only [VRP] at h; simp only [List.take_succ_cons, VRP]; exact ⟨h.1, VRP.take n h.2⟩
theorem VRP.takeR {E : Gh} : ∀ (n : Nat) {xs : List AV} {vs : List Value}, VRP E xs vs → xs.length ≤ n → VRP E xs (vs.take n)
  | _, [], _, _, _ => VRP.nil
  | _, _ :: _, [], h, _ => by simp only [VRP] at h
  | 0, _ :: _, _ :: _, _, hl => by simp at hl
  | n + 1, _ :: xs, _ :: vs, h, hl => by
    simp only [VRP] at h; simp only [List.take_succ_cons, VRP]; exact ⟨h.1, VRP.takeR n h.2 (by simpa using hl)⟩
theorem VRP.append {E : Gh} : ∀ {xs ys : List AV} {vs us : List Value}, VRP E xs vs → xs.length = vs.length → VRP E ys us → VRP E (xs ++ ys) (vs ++ us)
  | [], _, [], _, _, _, h => h
  | [], _, _ :: _, _, _, hl, _ => by simp at hl
  | _ :: _, _, [], _, h, _, _ => by simp only [VRP] at h
  | _ :: xs, ys, _ :: vs, us, h, hl, h' => by
    simp only [VRP] at h; simp only [List.cons_append, VRP]; exact ⟨h.1, VRP.append h.2 (by simpa using hl) h'⟩
theorem VRP.more {E : Gh} : ∀ {xs : List AV} {vs us : List Value}, VRP E xs vs → VRP E xs (vs ++ us)
  | [], _, _, _ => VRP.nil
  | _ :: _, [], _, h => by simp only [VRP] at h
  | _ :: xs, _ :: vs, us, h => by simp only [VRP] at h; simp only [List.cons_append, VRP]; exact ⟨h.1, VRP.more h.2⟩
theorem VRP.left {E : Gh} : ∀ {xs ys : List AV} {vs : List Value}, VRP E (xs ++ ys) vs → VRP E xs vs
  | [], _, _, _ => VRP.nil
  | _ :: _, _, [], h => by simp only [List.cons_append, VRP] at h
  | _ :: xs, ys, _ :: vs, h => by simp only [List.cons_append, VRP] at h ⊢; exact ⟨h.1, VRP.left h.2⟩

/-! constants -/
theorem cv1_rel (E : Gh) {v : Value} {x : AV} (h : cv1 v = some x) : VR E x v := by
  unfold cv1 at h
  split at h <;> first | (cases h; simp only [VR]) | cases h

theorem cvs_rel (E : Gh) : ∀ {vs : List Value} {xs : List AV}, cvs vs = some xs → VRP E xs vs ∧ xs.length = vs.length
  | [], xs, h => by simp only [cvs, Option.some.injEq] at h; subst h; exact ⟨VRP.nil, rfl⟩
  | v :: vs, xs, h => by
    simp only [cvs, o2_eq, on3_eq, ob_some, Option.some.injEq] at h
    obtain ⟨x, hx, ys, hy, rfl⟩ := h
    have := cvs_rel E hy
    exact ⟨VRP.cons_iff.2 ⟨cv1_rel E hx, this.1⟩, by simp [this.2]⟩

theorem cv_rel (E : Gh) {v : Value} {x : AV} (h : cv v = some x) : VR E x v := by
  unfold cv at h
  split at h
  · simp only [o2_eq, on3_eq, ob_some, Option.some.injEq] at h
    obtain ⟨xs, hx, rfl⟩ := h
    have := cvs_rel E hx
    simp only [VR]
    exact ⟨_, rfl, this.1, by simpa using this.2⟩
  · exact cv1_rel E h

theorem VR.cells {E : Gh} {x : AV} {v : Value} (h : VR E x v) : VRP E x.cells v.cells.toList ∧ x.cells.length = v.cells.size := by
  cases x with
  | agg cs => simp only [VR] at h; obtain ⟨a, rfl, h1, h2⟩ := h; exact ⟨h1, h2⟩
  | _ =>
    have hv : v.cells = #[v] := by
      cases v <;> first | rfl | (simp only [VR] at h; simp at h)
    rw [hv]
    exact ⟨VRP.cons_iff.2 ⟨h, VRP.nil⟩, rfl⟩

theorem VR.one {E : Gh} {x : AV} {v : Value} (h : VR E x v) (ho : x.one = true) : v.oneCell' = true := by
  cases x <;> simp only [AV.one, Bool.false_eq_true] at ho <;> simp only [VR] at h <;> cases v <;> first | rfl | simp at h

/-! slots -/
def TR (E : Gh) (nt : Nat) (T : Nat → Option AV) (a : Act) : Prop :=
  a.tmps.size = nt ∧ ∀ t x, T t = some x → ∃ v, a.tmps[t]? = some v ∧ VR E x v

theorem TR.mono {E E' : Gh} (h : Ext E E') {nt : Nat} {T : Nat → Option AV} {a : Act} (ht : TR E nt T a) : TR E' nt T a :=
  ⟨ht.1, fun t x hx => let ⟨v, hv, hr⟩ := ht.2 t x hx; ⟨v, hv, VR.mono h x v hr⟩⟩

/-! memory -/
def MR (E : Gh) : List ME → List MapEntry → Prop
  | [], [] => True
  | e :: es, f :: fs => VR E e.key f.key ∧ VR E e.val f.val ∧ e.born = f.born ∧ MR E es fs
  | _, _ => False

def BR (E : Gh) (n : Nat) : AB → Obj → Prop
  | .cells cs, o => ∃ arr el fz, o = .cells arr el fz ∧ E.bsz n = arr.size ∧ (∀ i, i < arr.size → (decide (fz.1 ≤ i) && decide (i < fz.2)) = false) ∧ VRP E cs (arr.toList.drop (E.sh n))
  | .map es c, o => ∃ arr, o = .map arr c ∧ MR E es arr.toList
  | .ice cs, o => ∃ arr el fz, o = .cells arr el fz ∧ E.bsz n = arr.size ∧ E.prot (E.blk n) = some arr ∧ VRP E cs (arr.toList.drop (E.sh n))
  | .tcells t cs, o => ∃ arr fz, o = .cells arr t fz ∧ E.sh n = 0 ∧ E.bsz n = arr.size ∧ (∀ i, i < arr.size → (decide (fz.1 ≤ i) && decide (i < fz.2)) = false) ∧ VRP E cs (arr.toList.drop (E.sh n))
  | .iter m since seen last, o => (∀ k, m = some k → E.dom k) ∧ E.sh n = 0 ∧ o = .mapIter (m.map E.blk) since seen.toArray last

theorem MR.mono {E E' : Gh} (h : Ext E E') : ∀ {es : List ME} {fs : List MapEntry}, MR E es fs → MR E' es fs
  | [], [], _ => by simp only [MR]
  | [], _ :: _, hm => by simp only [MR] at hm
  | _ :: _, [], hm => by simp only [MR] at hm
  | e :: es, f :: fs, hm => by
    simp only [MR] at hm ⊢
    exact ⟨VR.mono h _ _ hm.1, VR.mono h _ _ hm.2.1, hm.2.2.1, MR.mono h hm.2.2.2⟩

theorem BR.mono {E E' : Gh} (h : Ext E E') {n : Nat} (d : E.dom n) {b : AB} {o : Obj} (hb : BR E n b o) : BR E' n b o := by
  cases b with
  | cells cs =>
    simp only [BR] at hb ⊢
    obtain ⟨arr, el, fz, e, hs, hf, hr⟩ := hb
    exact ⟨arr, el, fz, e, by rw [h.bsz n d]; exact hs, hf, by rw [h.sh n d]; exact VRP.mono h _ _ hr⟩
  | tcells t cs =>
    simp only [BR] at hb ⊢
    obtain ⟨arr, fz, e, h0, hs, hf, hr⟩ := hb
    exact ⟨arr, fz, e, by rw [h.sh n d]; exact h0, by rw [h.bsz n d]; exact hs, hf, by rw [h.sh n d]; exact VRP.mono h _ _ hr⟩
  | map es c =>
    simp only [BR] at hb ⊢
    obtain ⟨arr, e, hm⟩ := hb
    exact ⟨arr, e, MR.mono h hm⟩
  | ice cs =>
    simp only [BR] at hb ⊢
    obtain ⟨arr, el, fz, e, hs, hf, hr⟩ := hb
    exact ⟨arr, el, fz, e, by rw [h.bsz n d]; exact hs, by rw [h.blk n d]; exact h.prot _ _ hf, by rw [h.sh n d]; exact VRP.mono h _ _ hr⟩
  | iter m since seen last =>
    simp only [BR] at hb ⊢
    obtain ⟨h1, h2, h3⟩ := hb
    refine ⟨fun k hk => h.dom k (h1 k hk), by rw [h.sh n d]; exact h2, ?_⟩
    rw [h3]
    cases m with
    | none => rfl
    | some k => simp [h.blk k (h1 k rfl)]

theorem BR.untype {E : Gh} {n : Nat} {t : TypeId} {cs : List AV} {o : Obj} (h : BR E n (.tcells t cs) o) : BR E n (.cells cs) o := by
  simp only [BR] at h ⊢
  obtain ⟨arr, fz, e, _, hs, hf, hr⟩ := h
  exact ⟨arr, t, fz, e, hs, hf, hr⟩
theorem BR.ofRow {E : Gh} {n : Nat} {b : Bool} {t : TypeId} {cs : List AV} {arr : Array Value} {fz : Nat × Nat} (h0 : E.sh n = 0) (hs : E.bsz n = arr.size) (hf : ∀ i, i < arr.size → (decide (fz.1 ≤ i) && decide (i < fz.2)) = false) (hr : VRP E cs (arr.toList.drop (E.sh n))) :
    BR E n (rowB b t cs) (.cells arr t fz) := by
  cases b
  · exact ⟨arr, t, fz, rfl, hs, hf, hr⟩
  · exact ⟨arr, fz, rfl, h0, hs, hf, hr⟩

structure HR (E : Gh) (h : Nat → Option AB) (w : World) : Prop where
  blk : ∀ n b, h n = some b → E.dom n ∧ ∃ o, w.heap[E.blk n]? = some o ∧ BR E n b o
  free : ∀ n b, h n = some b → b.mut = true → E.prot (E.blk n) = none
  inj : ∀ n m b c, h n = some b → h m = some c → E.blk n = E.blk m → n = m

structure PR (E : Gh) (w : World) : Prop where
  blk : ∀ b arr, E.prot b = some arr → ∃ el fz, w.heap[b]? = some (.cells arr el fz)
  gl : ∀ g v, Gl.g g = some v → VR E.ice v (.pointer (some ⟨g, 0, none⟩))

theorem HR.weaken {E : Gh} {h h' : Nat → Option AB} {w : World} (hr : HR E h w) (hs : ∀ n b, h' n = some b → h n = some b) : HR E h' w :=
  ⟨fun n b hb => hr.blk n b (hs n b hb), fun n b hb => hr.free n b (hs n b hb), fun n m b c hb hc => hr.inj n m b c (hs n b hb) (hs m c hc)⟩

/-- the streams and the tape are as they were -/
structure Env (w w' : World) : Prop where
  os : w'.os = w.os
  tape : w'.tape = w.tape
  output : w'.output = w.output

theorem Env.refl (w : World) : Env w w := ⟨rfl, rfl, rfl⟩
theorem Env.trans {a b c : World} (h : Env a b) (k : Env b c) : Env a c := ⟨k.os.trans h.os, k.tape.trans h.tape, k.output.trans h.output⟩

/-- one step of the machine, seen abstractly: from (E, h, w) to (E', h', w'), making names from x to y. -/
structure Tran (E : Gh) (h : Nat → Option AB) (w : World) (x : Nat) (E' : Gh) (h' : Nat → Option AB) (w' : World) (y : Nat) : Prop where
  ext : Ext E E'
  le : x ≤ y
  dom : ∀ n, E'.dom n → E.dom n ∨ (x ≤ n ∧ n < y)
  hr : HR E' h' w'
  pr : PR E' w'
  size : w.heap.size ≤ w'.heap.size
  names : ∀ n b, h' n = some b → (∃ c, h n = some c) ∨ (x ≤ n ∧ n < y)
  own : ∀ n b, h' n = some b → E'.blk n < w.heap.size → ∃ m c, h m = some c ∧ E.blk m = E'.blk n
  frame : ∀ b, b < w.heap.size → (∀ n c, h n = some c → E.blk n ≠ b) → w'.heap[b]? = w.heap[b]?
  prot : ∀ b, b < w.heap.size → (∀ n c, h n = some c → E.blk n ≠ b) → E'.prot b = E.prot b
  env : Env w w'

theorem Tran.refl {E : Gh} {h : Nat → Option AB} {w : World} (x : Nat) (hr : HR E h w) (pr : PR E w) : Tran E h w x E h w x :=
  ⟨Ext.refl E, Nat.le_refl x, fun _ d => .inl d, hr, pr, Nat.le_refl _, fun _ b hb => .inl ⟨b, hb⟩, fun n b hb _ => ⟨n, b, hb, rfl⟩, fun _ _ _ => rfl, fun _ _ _ => rfl, Env.refl w⟩

theorem Tran.trans {E E1 E2 : Gh} {h h1 h2 : Nat → Option AB} {w w1 w2 : World} {x y z : Nat} (a : Tran E h w x E1 h1 w1 y) (b : Tran E1 h1 w1 y E2 h2 w2 z) :
    Tran E h w x E2 h2 w2 z := by
  have key : ∀ k, k < w.heap.size → (∀ n c, h n = some c → E.blk n ≠ k) → ∀ n c, h1 n = some c → E1.blk n ≠ k := by
    intro k hk hn n c hc e
    obtain ⟨m, c', hm, hb⟩ := a.own n c hc (by omega)
    exact hn m c' hm (hb.trans e)
  refine ⟨a.ext.trans b.ext, Nat.le_trans a.le b.le, ?_, b.hr, b.pr, Nat.le_trans a.size b.size, ?_, ?_, ?_, ?_, a.env.trans b.env⟩
  · intro n d
    rcases b.dom n d with d | ⟨d, e⟩
    · rcases a.dom n d with d | ⟨d, e⟩
      · exact .inl d
      · exact .inr ⟨d, Nat.lt_of_lt_of_le e b.le⟩
    · exact .inr ⟨Nat.le_trans a.le d, e⟩
  · intro n c hc
    rcases b.names n c hc with ⟨c', hc'⟩ | ⟨d, e⟩
    · rcases a.names n c' hc' with r | ⟨d, e⟩
      · exact .inl r
      · exact .inr ⟨d, Nat.lt_of_lt_of_le e b.le⟩
    · exact .inr ⟨Nat.le_trans a.le d, e⟩
  · intro n c hc hlt
    obtain ⟨m, c', hm, e⟩ := b.own n c hc (Nat.lt_of_lt_of_le hlt a.size)
    obtain ⟨m', c'', hm', e'⟩ := a.own m c' hm (by omega)
    exact ⟨m', c'', hm', e'.trans e⟩
  · intro k hk hn
    rw [b.frame k (Nat.lt_of_lt_of_le hk a.size) (key k hk hn), a.frame k hk hn]
  · intro k hk hn
    rw [b.prot k (Nat.lt_of_lt_of_le hk a.size) (key k hk hn), a.prot k hk hn]

theorem Tran.trans2 {E E1 E2 : Gh} {h h1 h2 : Nat → Option AB} {w w1 w2 : World} {x y x' y' : Nat} (a : Tran E h w x E1 h1 w1 y) (b : Tran E1 h1 w1 x' E2 h2 w2 y') (hx : x ≤ x') (hy : y ≤ y') :
    Tran E h w x E2 h2 w2 y' := by
  have key : ∀ k, k < w.heap.size → (∀ n c, h n = some c → E.blk n ≠ k) → ∀ n c, h1 n = some c → E1.blk n ≠ k := by
    intro k hk hn n c hc e
    obtain ⟨m, c', hm, hb⟩ := a.own n c hc (by omega)
    exact hn m c' hm (hb.trans e)
  have hle := a.le
  refine ⟨a.ext.trans b.ext, by omega, ?_, b.hr, b.pr, Nat.le_trans a.size b.size, ?_, ?_, ?_, ?_, a.env.trans b.env⟩
  · intro n d
    rcases b.dom n d with d | ⟨d, e⟩
    · rcases a.dom n d with d | ⟨d, e⟩
      · exact .inl d
      · exact .inr ⟨d, by omega⟩
    · exact .inr ⟨by omega, e⟩
  · intro n c hc
    rcases b.names n c hc with ⟨c', hc'⟩ | ⟨d, e⟩
    · rcases a.names n c' hc' with r | ⟨d, e⟩
      · exact .inl r
      · exact .inr ⟨d, by omega⟩
    · exact .inr ⟨by omega, e⟩
  · intro n c hc hlt
    obtain ⟨m, c', hm, e⟩ := b.own n c hc (Nat.lt_of_lt_of_le hlt a.size)
    obtain ⟨m', c'', hm', e'⟩ := a.own m c' hm (by omega)
    exact ⟨m', c'', hm', e'.trans e⟩
  · intro k hk hn
    rw [b.frame k (Nat.lt_of_lt_of_le hk a.size) (key k hk hn), a.frame k hk hn]
  · intro k hk hn
    rw [b.prot k (Nat.lt_of_lt_of_le hk a.size) (key k hk hn), a.prot k hk hn]

/-- what a step on part of the memory does to the whole -/
def merge (h R R' : Nat → Option AB) : Nat → Option AB := fun n => if (R n).isSome || (R' n).isSome then R' n else h n

theorem Tran.frameRule {E E' : Gh} {h R R' : Nat → Option AB} {w w' : World} {x y : Nat} (t : Tran E R w x E' R' w' y) (hh : HR E h w)
    (sub : ∀ n b, R n = some b → h n = some b) : Tran E h w x E' (merge h R R') w' y := by
  have size_lt : ∀ n b, h n = some b → E.blk n < w.heap.size := by
    intro n b hb
    obtain ⟨_, o, ho, _⟩ := hh.blk n b hb
    exact (Array.getElem?_eq_some_iff.1 ho).1
  have rest : ∀ n b, R n = none → h n = some b → ∀ m c, R m = some c → E.blk m ≠ E.blk n := by
    intro n b hn hb m c hc e
    have := hh.inj m n c b (sub m c hc) hb e
    subst this
    rw [hn] at hc; cases hc
  have cases' : ∀ n b, merge h R R' n = some b → R' n = some b ∨ (R n = none ∧ R' n = none ∧ h n = some b) := by
    intro n b hb
    unfold merge at hb
    split at hb
    · exact .inl hb
    · rename_i hc
      simp only [Bool.or_eq_true, not_or, Bool.not_eq_true, Option.isSome_eq_false_iff, Option.isNone_iff_eq_none] at hc
      exact .inr ⟨hc.1, hc.2, hb⟩
  have blkR : ∀ n b, R n = none → h n = some b → E'.blk n = E.blk n := fun n b _ hb => t.ext.blk n (hh.blk n b hb).1
  refine ⟨t.ext, t.le, t.dom, ⟨?_, ?_, ?_⟩, t.pr, t.size, ?_, ?_, ?_, ?_, t.env⟩
  · intro n b hb
    rcases cases' n b hb with hb | ⟨h1, _, hb⟩
    · exact t.hr.blk n b hb
    · obtain ⟨d, o, ho, hr⟩ := hh.blk n b hb
      refine ⟨t.ext.dom n d, o, ?_, hr.mono t.ext d⟩
      rw [t.ext.blk n d, t.frame _ (size_lt n b hb) (rest n b h1 hb), ho]
  · intro n b hb
    intro hmut
    rcases cases' n b hb with hb | ⟨h1, _, hb⟩
    · exact t.hr.free n b hb hmut
    · obtain ⟨d, _⟩ := hh.blk n b hb
      rw [t.ext.blk n d, t.prot _ (size_lt n b hb) (rest n b h1 hb)]
      exact hh.free n b hb hmut
  · have mixed : ∀ n m b c, R' n = some b → R m = none → h m = some c → E'.blk n = E'.blk m → False := by
      intro n m b c hb h1 hc e
      rw [blkR m c h1 hc] at e
      obtain ⟨k, c', hk, e'⟩ := t.own n b hb (by rw [e]; exact size_lt m c hc)
      exact rest m c h1 hc k c' hk (e'.trans e)
    intro n m b c hb hc e
    rcases cases' n b hb with hb | ⟨h1, _, hb⟩ <;> rcases cases' m c hc with hc | ⟨h2, _, hc⟩
    · exact t.hr.inj n m b c hb hc e
    · exact (mixed n m b c hb h2 hc e).elim
    · exact (mixed m n c b hc h1 hb e.symm).elim
    · exact hh.inj n m b c hb hc (by rw [← blkR n b h1 hb, ← blkR m c h2 hc]; exact e)
  · intro n b hb
    rcases cases' n b hb with hb | ⟨_, _, hb⟩
    · rcases t.names n b hb with ⟨c, hc⟩ | r
      · exact .inl ⟨c, sub n c hc⟩
      · exact .inr r
    · exact .inl ⟨b, hb⟩
  · intro n b hb hlt
    rcases cases' n b hb with hb | ⟨h1, _, hb⟩
    · obtain ⟨m, c, hm, e⟩ := t.own n b hb hlt
      exact ⟨m, c, sub m c hm, e⟩
    · exact ⟨n, b, hb, (blkR n b h1 hb).symm⟩
  · intro k hk hn
    exact t.frame k hk fun n c hc => hn n c (sub n c hc)
  · intro k hk hn
    exact t.prot k hk fun n c hc => hn n c (sub n c hc)

/-- forgetting some of what is known behind a step -/
theorem Tran.forget {E E' : Gh} {h h' h'' : Nat → Option AB} {w w' : World} {x y : Nat} (t : Tran E h w x E' h' w' y) (hs : ∀ n b, h'' n = some b → h' n = some b) :
    Tran E h w x E' h'' w' y :=
  ⟨t.ext, t.le, t.dom, t.hr.weaken hs, t.pr, t.size, fun n b hb => t.names n b (hs n b hb), fun n b hb => t.own n b (hs n b hb), t.frame, t.prot, t.env⟩

end Go.Eng
namespace Go.Eng
set_option linter.unusedSectionVars false
variable [Gl] [Mx]

/-! ghosts that grow -/
noncomputable def Gh.add (E : Gh) (x b s z : Nat) : Gh :=
  { dom := fun n => E.dom n ∨ n = x, blk := fun n => if n = x then b else E.blk n, sh := fun n => if n = x then s else E.sh n,
    bsz := fun n => if n = x then z else E.bsz n, prot := E.prot }

theorem Ext.add {E : Gh} {x : Nat} (hx : ¬ E.dom x) (b s z : Nat) : Ext E (E.add x b s z) := by
  have ne : ∀ n, E.dom n → n ≠ x := fun n d e => hx (e ▸ d)
  exact ⟨fun n d => .inl d, fun n d => if_neg (ne n d), fun n d => if_neg (ne n d), fun n d => if_neg (ne n d), fun _ _ h => h⟩

theorem HR.lt {E : Gh} {h : Nat → Option AB} {w : World} (hr : HR E h w) {n : Nat} {b : AB} (hb : h n = some b) : E.blk n < w.heap.size := by
  obtain ⟨_, o, ho, _⟩ := hr.blk n b hb
  exact (Array.getElem?_eq_some_iff.1 ho).1

theorem PR.lt {E : Gh} {w : World} (pr : PR E w) {b : Nat} {arr : Array Value} (hb : E.prot b = some arr) : b < w.heap.size := by
  obtain ⟨el, fz, ho⟩ := pr.blk b arr hb
  exact (Array.getElem?_eq_some_iff.1 ho).1

/-- a new block -/
theorem Tran.new {E : Gh} {h h' : Nat → Option AB} {w w' : World} {x z : Nat} {b : AB} {o : Obj} (hr : HR E h w) (pr : PR E w) (hx : ¬ E.dom x)
    (hw : w'.heap = w.heap.push o) (he : Env w w') (hh : ∀ n, h' n = if n = x then some b else h n) (hb : BR (E.add x w.heap.size 0 z) x b o) :
    Tran E h w x (E.add x w.heap.size 0 z) h' w' (x + 1) := by
  have ext := Ext.add hx w.heap.size 0 z
  have ne : ∀ n b, h n = some b → n ≠ x := fun n b hb e => hx (e ▸ (hr.blk n b hb).1)
  have bx : (E.add x w.heap.size 0 z).blk x = w.heap.size := if_pos rfl
  have old : ∀ n b, n ≠ x → h' n = some b → h n = some b := fun n b hn hb => by rw [hh, if_neg hn] at hb; exact hb
  refine ⟨ext, Nat.le_succ x, ?_, ⟨?_, ?_, ?_⟩, ?_, ?_, ?_, ?_, ?_, ?_, he⟩
  · rintro n (d | rfl)
    · exact .inl d
    · exact .inr ⟨Nat.le_refl _, Nat.lt_succ_self _⟩
  · intro n c hc
    by_cases e : n = x
    · subst e
      rw [hh, if_pos rfl] at hc
      cases hc
      refine ⟨.inr rfl, o, ?_, hb⟩
      rw [bx, hw]; simp
    · obtain ⟨d, o', ho, hbr⟩ := hr.blk n c (old n c e hc)
      refine ⟨.inl d, o', ?_, hbr.mono ext d⟩
      have hlt := (Array.getElem?_eq_some_iff.1 ho).1
      rw [ext.blk n d, hw, Array.getElem?_push, if_neg (by omega), ho]
  · intro n c hc hmut
    by_cases e : n = x
    · subst e
      rw [bx]
      show E.prot w.heap.size = none
      cases hp : E.prot w.heap.size with
      | none => rfl
      | some arr => exact absurd (pr.lt hp) (Nat.lt_irrefl _)
    · rw [ext.blk n (hr.blk n c (old n c e hc)).1]
      exact hr.free n c (old n c e hc) hmut
  · intro n m c c' hc hc' e
    by_cases en : n = x <;> by_cases em : m = x
    · rw [en, em]
    · exfalso
      subst en
      have hl := hr.lt (old m c' em hc')
      rw [bx, ext.blk m (hr.blk m c' (old m c' em hc')).1] at e
      omega
    · exfalso
      subst em
      have hl := hr.lt (old n c en hc)
      rw [bx, ext.blk n (hr.blk n c (old n c en hc)).1] at e
      omega
    · have h1 := old n c en hc
      have h2 := old m c' em hc'
      rw [ext.blk n (hr.blk n c h1).1, ext.blk m (hr.blk m c' h2).1] at e
      exact hr.inj n m c c' h1 h2 e
  · refine ⟨?_, fun g v hg => VR.mono ext.ice _ _ (pr.gl g v hg)⟩
    intro k arr hk
    obtain ⟨el, fz, ho⟩ := pr.blk k arr hk
    have hlt := (Array.getElem?_eq_some_iff.1 ho).1
    exact ⟨el, fz, by rw [hw, Array.getElem?_push, if_neg (by omega), ho]⟩
  · rw [hw]; simp
  · intro n c hc
    by_cases e : n = x
    · exact .inr ⟨by omega, by omega⟩
    · exact .inl ⟨c, old n c e hc⟩
  · intro n c hc hlt
    by_cases e : n = x
    · subst e; rw [bx] at hlt; omega
    · exact ⟨n, c, old n c e hc, (ext.blk n (hr.blk n c (old n c e hc)).1).symm⟩
  · intro k hk _
    rw [hw, Array.getElem?_push, if_neg (by omega)]
  · intro k _ _; rfl

/-- a block changed in place -/
theorem Tran.set {E : Gh} {h h' : Nat → Option AB} {w w' : World} {n : Nat} (x : Nat) {b b' : AB} {o : Obj} (hr : HR E h w) (pr : PR E w) (hb : h n = some b) (hbm : b.mut = true)
    (hw : w'.heap = w.heap.setIfInBounds (E.blk n) o) (he : Env w w') (hh : ∀ m, h' m = if m = n then some b' else h m) (hbr : BR E n b' o) : Tran E h w x E h' w' x := by
  have hlt := hr.lt hb
  have old : ∀ m c, m ≠ n → h' m = some c → h m = some c := fun m c hm hc => by rw [hh, if_neg hm] at hc; exact hc
  have some' : ∀ m c, h' m = some c → ∃ c', h m = some c' := fun m c hc => by
    by_cases e : m = n
    · exact ⟨b, e ▸ hb⟩
    · exact ⟨c, old m c e hc⟩
  have keep : ∀ k, k ≠ E.blk n → w'.heap[k]? = w.heap[k]? := fun k hk => by rw [hw, Array.getElem?_setIfInBounds_ne (Ne.symm hk)]
  refine ⟨Ext.refl E, Nat.le_refl x, fun _ d => .inl d, ⟨?_, ?_, ?_⟩, ?_, ?_, fun m c hc => .inl (some' m c hc), ?_, ?_, fun _ _ _ => rfl, he⟩
  · intro m c hc
    by_cases e : m = n
    · subst e
      rw [hh, if_pos rfl] at hc
      cases hc
      exact ⟨(hr.blk m b hb).1, o, by rw [hw]; simp [hlt], hbr⟩
    · have hc' := old m c e hc
      obtain ⟨d, o', ho, hbr'⟩ := hr.blk m c hc'
      exact ⟨d, o', by rw [keep _ (fun e' => e (hr.inj m n c b hc' hb e')), ho], hbr'⟩
  · intro m c hc hmut
    by_cases e : m = n
    · subst e; exact hr.free m b hb hbm
    · exact hr.free m c (old m c e hc) hmut
  · intro m k c c' hc hc' e
    obtain ⟨d, hd⟩ := some' m c hc
    obtain ⟨d', hd'⟩ := some' k c' hc'
    exact hr.inj m k d d' hd hd' e
  · refine ⟨?_, pr.gl⟩
    intro k arr hk
    obtain ⟨el, fz, ho⟩ := pr.blk k arr hk
    exact ⟨el, fz, by rw [keep k (fun e => by rw [e, hr.free n b hb hbm] at hk; cases hk), ho]⟩
  · rw [hw]; simp
  · intro m c hc _
    obtain ⟨c', hc'⟩ := some' m c hc
    exact ⟨m, c', hc', rfl⟩
  · intro k _ hk
    exact keep k (fun e => hk n b hb e.symm)

/-- a block changed in place and known under a new name from now on; the old name is given up -/
theorem Tran.rename {E : Gh} {h h' : Nat → Option AB} {w w' : World} {n x s : Nat} {b b' : AB} {o : Obj} (hr : HR E h w) (pr : PR E w) (hx : ¬ E.dom x) (hb : h n = some b) (hbm : b.mut = true)
    (hw : w'.heap = w.heap.setIfInBounds (E.blk n) o) (he : Env w w') (hh : ∀ m, h' m = if m = x then some b' else if m = n then none else h m)
    (hbr : BR (E.add x (E.blk n) s (E.bsz n)) x b' o) : Tran E h w x (E.add x (E.blk n) s (E.bsz n)) h' w' (x + 1) := by
  have ext := Ext.add hx (E.blk n) s (E.bsz n)
  have hlt := hr.lt hb
  have bx : (E.add x (E.blk n) s (E.bsz n)).blk x = E.blk n := if_pos rfl
  have old : ∀ m c, m ≠ x → h' m = some c → m ≠ n ∧ h m = some c := fun m c hm hc => by
    rw [hh, if_neg hm] at hc
    by_cases e : m = n
    · rw [if_pos e] at hc; cases hc
    · rw [if_neg e] at hc; exact ⟨e, hc⟩
  have keep : ∀ k, k ≠ E.blk n → w'.heap[k]? = w.heap[k]? := fun k hk => by rw [hw, Array.getElem?_setIfInBounds_ne (Ne.symm hk)]
  refine ⟨ext, Nat.le_succ x, ?_, ⟨?_, ?_, ?_⟩, ?_, ?_, ?_, ?_, ?_, fun _ _ _ => rfl, he⟩
  · rintro m (d | rfl)
    · exact .inl d
    · exact .inr ⟨Nat.le_refl _, Nat.lt_succ_self _⟩
  · intro m c hc
    by_cases e : m = x
    · subst e
      rw [hh, if_pos rfl] at hc
      cases hc
      exact ⟨.inr rfl, o, by rw [bx, hw]; simp [hlt], hbr⟩
    · obtain ⟨en, hc'⟩ := old m c e hc
      obtain ⟨d, o', ho, hbr'⟩ := hr.blk m c hc'
      exact ⟨.inl d, o', by rw [ext.blk m d, keep _ (fun e' => en (hr.inj m n c b hc' hb e')), ho], hbr'.mono ext d⟩
  · intro m c hc hmut
    by_cases e : m = x
    · subst e; rw [bx]; exact hr.free n b hb hbm
    · obtain ⟨_, hc'⟩ := old m c e hc
      rw [ext.blk m (hr.blk m c hc').1]; exact hr.free m c hc' hmut
  · intro m k c c' hc hc' e
    by_cases em : m = x <;> by_cases ek : k = x
    · rw [em, ek]
    · exfalso
      obtain ⟨en, hk⟩ := old k c' ek hc'
      rw [em, bx, ext.blk k (hr.blk k c' hk).1] at e
      exact en (hr.inj k n c' b hk hb e.symm)
    · exfalso
      obtain ⟨en, hk⟩ := old m c em hc
      rw [ek, bx, ext.blk m (hr.blk m c hk).1] at e
      exact en (hr.inj m n c b hk hb e)
    · obtain ⟨_, h1⟩ := old m c em hc
      obtain ⟨_, h2⟩ := old k c' ek hc'
      rw [ext.blk m (hr.blk m c h1).1, ext.blk k (hr.blk k c' h2).1] at e
      exact hr.inj m k c c' h1 h2 e
  · refine ⟨?_, fun g v hg => VR.mono ext.ice _ _ (pr.gl g v hg)⟩
    intro k arr hk
    obtain ⟨el, fz, ho⟩ := pr.blk k arr hk
    exact ⟨el, fz, by rw [keep k (fun e => by
      have hk' : E.prot k = some arr := hk
      rw [e, hr.free n b hb hbm] at hk'; cases hk'), ho]⟩
  · rw [hw]; simp
  · intro m c hc
    by_cases e : m = x
    · exact .inr ⟨by omega, by omega⟩
    · exact .inl ⟨c, (old m c e hc).2⟩
  · intro m c hc _
    by_cases e : m = x
    · subst e; exact ⟨n, b, hb, bx.symm⟩
    · obtain ⟨_, hc'⟩ := old m c e hc
      exact ⟨m, c, hc', (ext.blk m (hr.blk m c hc').1).symm⟩
  · intro k _ hk
    exact keep k (fun e => hk n b hb e.symm)

/-- a block changed and given up -/
theorem Tran.drop {E : Gh} {h h' : Nat → Option AB} {w w' : World} {n : Nat} (x : Nat) {b : AB} {o : Obj} (hr : HR E h w) (pr : PR E w) (hb : h n = some b) (hbm : b.mut = true)
    (hw : w'.heap = w.heap.setIfInBounds (E.blk n) o) (he : Env w w') (hh : ∀ m, h' m = if m = n then none else h m) : Tran E h w x E h' w' x := by
  have old : ∀ m c, h' m = some c → m ≠ n ∧ h m = some c := fun m c hc => by
    rw [hh] at hc
    by_cases e : m = n
    · rw [if_pos e] at hc; cases hc
    · rw [if_neg e] at hc; exact ⟨e, hc⟩
  have keep : ∀ k, k ≠ E.blk n → w'.heap[k]? = w.heap[k]? := fun k hk => by rw [hw, Array.getElem?_setIfInBounds_ne (Ne.symm hk)]
  refine ⟨Ext.refl E, Nat.le_refl x, fun _ d => .inl d, ⟨?_, ?_, ?_⟩, ⟨?_, pr.gl⟩, ?_, fun m c hc => .inl ⟨c, (old m c hc).2⟩, fun m c hc _ => ⟨m, c, (old m c hc).2, rfl⟩, fun k _ hk => keep k (fun e => hk n b hb e.symm), fun _ _ _ => rfl, he⟩
  · intro m c hc
    obtain ⟨e, hc'⟩ := old m c hc
    obtain ⟨d, o', ho, hbr'⟩ := hr.blk m c hc'
    exact ⟨d, o', by rw [keep _ (fun e' => e (hr.inj m n c b hc' hb e')), ho], hbr'⟩
  · intro m c hc hmut
    exact hr.free m c (old m c hc).2 hmut
  · intro m k c c' hc hc' e
    exact hr.inj m k c c' (old m c hc).2 (old k c' hc').2 e
  · intro k arr hk
    obtain ⟨el, fz, ho⟩ := pr.blk k arr hk
    exact ⟨el, fz, by rw [keep k (fun e => by rw [e, hr.free n b hb hbm] at hk; cases hk), ho]⟩
  · rw [hw]; simp

theorem set_same {α : Type} {a : Array α} {b : Nat} {o : α} (h : a[b]? = some o) : a.setIfInBounds b o = a := by
  have hlt := (Array.getElem?_eq_some_iff.1 h).1
  apply Array.ext_getElem?
  intro i
  by_cases e : b = i
  · subst e; rw [h]; simp [hlt]
  · rw [Array.getElem?_setIfInBounds_ne e]

theorem set_set {α : Type} (a : Array α) (b : Nat) (o o' : α) : (a.setIfInBounds b o).setIfInBounds b o' = a.setIfInBounds b o' := by
  apply Array.ext_getElem?
  intro i
  by_cases e : b = i
  · subst e; simp [Array.getElem?_setIfInBounds]
  · rw [Array.getElem?_setIfInBounds_ne e, Array.getElem?_setIfInBounds_ne e, Array.getElem?_setIfInBounds_ne e]

/-! the model's loads and stores of a block -/
section
variable {P : Program} {w : World} {b o : Nat} {arr : Array Value} {el : TypeId} {fz : Nat × Nat}

theorem add_mk (b o n : Nat) : (⟨b, o, none⟩ : Addr).add n = ⟨b, o + n, none⟩ := by
  unfold Addr.add
  by_cases h : n = 0
  · subst h; simp
  · rw [if_neg h]

theorem cell_at (h : w.heap[b]? = some (.cells arr el fz)) : w.cell? ⟨b, o, none⟩ = arr[o]? := by
  simp [World.cell?, h]

theorem frozen_at (h : w.heap[b]? = some (.cells arr el fz)) : w.frozen? ⟨b, o, none⟩ = (decide (fz.1 ≤ o) && decide (o < fz.2)) := by
  obtain ⟨lo, hi⟩ := fz
  simp [World.frozen?, h]

theorem run_load_at (h : w.heap[b]? = some (.cells arr el fz)) {v : Value} (hv : arr[o]? = some v) : (load ⟨b, o, none⟩).run P w = .ok v w := by
  rw [run_load, cell_at h, hv]

theorem run_loadFrom (h : w.heap[b]? = some (.cells arr el fz)) : ∀ (n i : Nat) (acc : Array Value), o + i + n ≤ arr.size →
    (loadCellsFrom ⟨b, o, none⟩ i n acc).run P w = .ok (acc ++ ((arr.toList.drop (o + i)).take n).toArray) w
  | 0, i, acc, _ => by simp [loadCellsFrom]
  | n + 1, i, acc, hn => by
    have hlt : o + i < arr.size := by omega
    have hv : arr[o + i]? = some arr[o + i] := Array.getElem?_eq_getElem hlt
    simp only [loadCellsFrom, Sem.run_bind, add_mk, run_load_at h hv, Result.andThen_ok, run_loadFrom h n (i + 1) _ (by omega)]
    congr 1
    have e : (arr.toList.drop (o + i)).take (n + 1) = arr[o + i] :: (arr.toList.drop (o + (i + 1))).take n := by
      rw [List.drop_eq_getElem_cons (by simpa using hlt), List.take_succ_cons]
      simp [Nat.add_assoc]
    rw [e]
    simp

theorem run_loadCells (h : w.heap[b]? = some (.cells arr el fz)) (n : Nat) (hn : o + n ≤ arr.size) :
    (loadCells ⟨b, o, none⟩ n).run P w = .ok ((arr.toList.drop o).take n).toArray w := by
  unfold loadCells
  rw [run_loadFrom h n 0 #[] (by omega)]
  simp

/-- the cells of a block with vs laid over them from o on -/
def overArr (arr : Array Value) (o : Nat) (vs : List Value) : Array Value := (arr.toList.take o ++ vs ++ arr.toList.drop (o + vs.length)).toArray

theorem overArr_size (arr : Array Value) (o : Nat) (vs : List Value) (h : o + vs.length ≤ arr.size) : (overArr arr o vs).size = arr.size := by
  unfold overArr; simp; omega

theorem overArr_nil (arr : Array Value) (o : Nat) : overArr arr o [] = arr := by
  unfold overArr
  apply Array.toList_inj.1
  simp

theorem overArr_cons (arr : Array Value) (o : Nat) (v : Value) (vs : List Value) (h : o + (v :: vs).length ≤ arr.size) :
    overArr (arr.setIfInBounds o v) (o + 1) vs = overArr arr o (v :: vs) := by
  have hlt : o < arr.toList.length := by simp at h ⊢; omega
  unfold overArr
  congr 1
  rw [Array.toList_setIfInBounds]
  have e1 : (arr.toList.set o v).take (o + 1) = arr.toList.take o ++ [v] := by
    rw [List.take_succ_eq_append_getElem (by simpa using hlt)]
    simp [List.take_set]
    apply List.set_eq_of_length_le
    simp; omega
  have e2 : (arr.toList.set o v).drop (o + 1 + vs.length) = arr.toList.drop (o + (v :: vs).length) := by
    rw [List.drop_set_of_lt (by omega), show o + 1 + vs.length = o + (v :: vs).length from by simp; omega]
  rw [e1, e2]; simp

theorem heap_setCell (h : w.heap[b]? = some (.cells arr el fz)) (v : Value) :
    (w.setCell ⟨b, o, none⟩ v).heap = w.heap.setIfInBounds b (.cells (arr.setIfInBounds o v) el fz) := by
  have hlt := (Array.getElem?_eq_some_iff.1 h).1
  have hg : w.heap[b] = .cells arr el fz := (Array.getElem?_eq_some_iff.1 h).2
  apply Array.ext_getElem?
  intro i
  by_cases e : b = i
  · subst e
    simp only [World.setCell, Array.getElem?_modify, h, if_true, Option.map_some, Option.isSome_none, Bool.false_eq_true, if_false]
    simp [hlt]
  · simp [World.setCell, Array.getElem?_modify, e, Array.getElem?_setIfInBounds_ne e]

theorem run_storeCells : ∀ (vs : List Value) (i : Nat) (w : World) (arr : Array Value), w.heap[b]? = some (.cells arr el fz) →
    (∀ j, j < arr.size → (decide (fz.1 ≤ j) && decide (j < fz.2)) = false) → (∀ v ∈ vs, v.oneCell' = true) → o + i + vs.length ≤ arr.size →
    ∃ w', (storeCells ⟨b, o, none⟩ vs i).run P w = .ok () w' ∧ w'.heap = w.heap.setIfInBounds b (.cells (overArr arr (o + i) vs) el fz) ∧ Env w w'
  | [], i, w, arr, h, _, _, _ => by
    refine ⟨w, rfl, ?_, Env.refl w⟩
    rw [overArr_nil, set_same h]
  | v :: vs, i, w, arr, h, hf, ho, hn => by
    have hlt : o + i < arr.size := by simp at hn; omega
    have hblk := (Array.getElem?_eq_some_iff.1 h).1
    have hv : arr[o + i]? = some arr[o + i] := Array.getElem?_eq_getElem hlt
    have h1 : (store ⟨b, o + i, none⟩ v).run P w = .ok () (w.setCell ⟨b, o + i, none⟩ v) := by
      rw [run_store P w _ v _ (ho v (by simp)), cell_at h, hv, frozen_at h, hf _ hlt]
      rfl
    have hheap := heap_setCell (o := o + i) h v
    have h2 : (w.setCell ⟨b, o + i, none⟩ v).heap[b]? = some (.cells (arr.setIfInBounds (o + i) v) el fz) := by
      rw [hheap]; simp [hblk]
    obtain ⟨w', hr, hw, henv⟩ := run_storeCells vs (i + 1) _ _ h2 (by simpa using hf) (fun u hu => ho u (by simp [hu])) (by simp at hn ⊢; omega)
    refine ⟨w', ?_, ?_, (⟨rfl, rfl, rfl⟩ : Env w (w.setCell ⟨b, o + i, none⟩ v)).trans henv⟩
    · simp only [storeCells, Sem.run_bind, add_mk, h1, Result.andThen_ok, hr]
    · rw [hw, hheap]
      rw [show o + (i + 1) = o + i + 1 from by omega, overArr_cons _ _ _ _ (by simpa using hn)]
      rw [set_set]
end

/-! lists laid over lists -/
theorem over0_rel {E : Gh} : ∀ {cs xs r : List AV} {vs us : List Value}, over0 cs xs = some r → VRP E cs vs → VRP E xs us → xs.length = us.length → VRP E r (us ++ vs.drop us.length)
  | cs, [], r, vs, us, h, hc, _, hl => by
    simp only [over0, Option.some.injEq] at h
    subst h
    cases us with
    | nil => simpa using hc
    | cons _ _ => simp at hl
  | [], _ :: _, r, _, _, h, _, _, _ => by simp [over0] at h
  | c :: cs, x :: xs, r, vs, us, h, hc, hx, hl => by
    simp only [over0, o2_eq, on3_eq, ob_some, Option.some.injEq] at h
    obtain ⟨r', hr, rfl⟩ := h
    cases us with
    | nil => simp at hl
    | cons u us =>
      cases vs with
      | nil => simp only [VRP] at hc
      | cons v vs =>
        rw [VRP.cons_iff] at hc hx
        simp only [List.cons_append, List.length_cons, List.drop_succ_cons, VRP.cons_iff]
        exact ⟨hx.1, over0_rel hr hc.2 hx.2 (by simpa using hl)⟩

theorem over0_len : ∀ {cs xs r : List AV}, over0 cs xs = some r → xs.length ≤ cs.length ∧ r.length = cs.length
  | cs, [], r, h => by simp only [over0, Option.some.injEq] at h; subst h; exact ⟨Nat.zero_le _, rfl⟩
  | [], _ :: _, r, h => by simp [over0] at h
  | c :: cs, x :: xs, r, h => by
    simp only [over0, o2_eq, on3_eq, ob_some, Option.some.injEq] at h
    obtain ⟨r', hr, rfl⟩ := h
    have := over0_len hr
    simp; omega

theorem over_rel {E : Gh} : ∀ {cs : List AV} {n : Nat} {xs r : List AV} {vs us : List Value}, over cs n xs = some r → VRP E cs vs → VRP E xs us → xs.length = us.length →
    VRP E r (vs.take n ++ us ++ vs.drop (n + us.length))
  | cs, 0, xs, r, vs, us, h, hc, hx, hl => by
    have h' : over0 cs xs = some r := by cases cs <;> exact h
    simpa using over0_rel h' hc hx hl
  | [], _ + 1, _, _, _, _, h, _, _, _ => by simp [over] at h
  | c :: cs, n + 1, xs, r, vs, us, h, hc, hx, hl => by
    simp only [over, o2_eq, on3_eq, ob_some, Option.some.injEq] at h
    obtain ⟨r', hr, rfl⟩ := h
    cases vs with
    | nil => simp only [VRP] at hc
    | cons v vs =>
      rw [VRP.cons_iff] at hc
      have := over_rel hr hc.2 hx hl
      rw [show n + 1 + us.length = (n + us.length) + 1 from by omega]
      simp only [List.take_succ_cons, List.cons_append, List.drop_succ_cons, VRP.cons_iff]
      exact ⟨hc.1, this⟩

theorem over_len : ∀ {cs : List AV} {n : Nat} {xs r : List AV}, over cs n xs = some r → n + xs.length ≤ cs.length ∧ r.length = cs.length
  | cs, 0, xs, r, h => by
    have h' : over0 cs xs = some r := by cases cs <;> exact h
    simpa using over0_len h'
  | [], _ + 1, _, _, h => by simp [over] at h
  | c :: cs, n + 1, xs, r, h => by
    simp only [over, o2_eq, on3_eq, ob_some, Option.some.injEq] at h
    obtain ⟨r', hr, rfl⟩ := h
    have := over_len hr
    simp; omega

theorem sub_some {cs : List AV} {off n : Nat} {r : List AV} (h : sub cs off n = some r) : r = (cs.drop off).take n ∧ r.length = n ∧ off + n ≤ max cs.length off := by
  unfold sub at h
  simp only at h
  cases hb : ((cs.drop off).take n).length.beq n <;> rw [hb] at h
  · cases h
  · cases h
    rw [nbeq_iff] at hb
    refine ⟨rfl, hb, ?_⟩
    simp at hb
    omega

end Go.Eng
namespace Go.Eng
set_option linter.unusedSectionVars false
variable [Gl] [Mx]

/-! tables -/
section
variable {P : Program} {t : TypeId} {e : TE}

theorem te_some (h : te P t = some e) : ∃ i, P.info? t = some i ∧ P.underlying t = some e.und ∧ i.size = e.size ∧ i.bytes = e.bytes ∧ ∃ z, i.zero = some z ∧ cv z = some e.zero := by
  simp only [te, o2_eq, on3_eq, ob_some, Option.some.injEq] at h
  obtain ⟨i, hi, d, hd, z, hz, zv, hzv, rfl⟩ := h
  exact ⟨i, hi, hd, rfl, rfl, z, hz, hzv⟩

theorem r_und (h : te P t = some e) (w : World) : (underlying t).run P w = .ok e.und w := by
  obtain ⟨i, hi, hd, _⟩ := te_some h
  simp [underlying, hd]

theorem r_info (h : te P t = some e) : ∃ i, (∀ w, (typeInfo t).run P w = .ok i w) ∧ i.size = e.size ∧ i.bytes = e.bytes := by
  obtain ⟨i, hi, hd, hs, hb, _⟩ := te_some h
  exact ⟨i, fun w => by simp [typeInfo, hi], hs, hb⟩

theorem r_size (h : te P t = some e) (w : World) : (sizeOf t).run P w = .ok e.size w := by
  obtain ⟨i, hi, hs, _⟩ := r_info h
  simp [sizeOf, hi, hs]

theorem r_zero (h : te P t = some e) : ∃ z, cv z = some e.zero ∧ ∀ w, (zeroValue t).run P w = .ok z w := by
  obtain ⟨i, hi, hd, hs, hb, z, hz, hzv⟩ := te_some h
  exact ⟨z, hzv, fun w => by simp [zeroValue, typeInfo, hi, hz]⟩

theorem r_isAgg (h : te P t = some e) (w : World) : (isAgg t).run P w = .ok (isAggD e.und) w := by
  simp only [isAgg, Sem.run_bind, r_und h, Result.andThen_ok]
  cases e.und <;> rfl
end

/-! what an operation does -/
def Does (P : Program) (s : Sem Next) (E : Gh) (S : St) (w : World) (v : AV) (S' : St) : Prop :=
  ∃ r v' w' E', s.run P w = .ok r w' ∧ (r = .value v' ∨ (r = .skip ∧ v' = undef)) ∧ VR E' v v' ∧ Tran E S.heap.get w S.next E' S'.heap.get w' S'.next

def DoesV (P : Program) (s : Sem Value) (E : Gh) (S : St) (w : World) (v : AV) (S' : St) : Prop :=
  ∃ v' w' E', s.run P w = .ok v' w' ∧ VR E' v v' ∧ Tran E S.heap.get w S.next E' S'.heap.get w' S'.next

theorem Does.ofV {P : Program} {s : Sem Value} {E : Gh} {S S' : St} {w : World} {v : AV} (h : DoesV P s E S w v S') :
    Does P (do pure (.value (← s))) E S w v S' := by
  obtain ⟨v', w', E', hr, hv, ht⟩ := h
  exact ⟨.value v', v', w', E', by simp [hr], .inl rfl, hv, ht⟩

section
variable {P : Program} {E : Gh} {S S' : St} {w : World}

theorem DoesV.same {s : Sem Value} {v : AV} {v' : Value} (hr : HR E S.heap.get w) (pr : PR E w) (hrun : s.run P w = .ok v' w) (hv : VR E v v') : DoesV P s E S w v S :=
  ⟨v', w, E, hrun, hv, Tran.refl _ hr pr⟩

/-- what a reading operation does: the world stays -/
def DoesR (P : Program) (s : Sem Value) (E : Gh) (w : World) (v : AV) : Prop := ∃ v', s.run P w = .ok v' w ∧ VR E v v'

theorem DoesR.of {s : Sem Value} {v : AV} {v' : Value} (hrun : s.run P w = .ok v' w) (hv : VR E v v') : DoesR P s E w v := ⟨v', hrun, hv⟩
theorem DoesR.toV {s : Sem Value} {v : AV} (h : DoesR P s E w v) (hr : HR E S.heap.get w) (pr : PR E w) : DoesV P s E S w v S := by
  obtain ⟨v', h1, h2⟩ := h
  exact DoesV.same hr pr h1 h2

theorem asN_rel {x : AV} {n : Nat} {v : Value} (h : asN x = some n) (hv : VR E x v) : ∃ k, v = .int k n := by
  unfold asN at h
  split at h
  · cases h
    simp only [VR] at hv
    exact ⟨_, hv⟩
  · cases h

/-! parts of cells -/
theorem partA_rel {e : TE} {cs : List AV} {off : Nat} {x : AV} {vs : List Value} (h : partA e cs off = some x) (hr : VRP E cs vs) :
    (isAggD e.und = true ∧ off + e.size ≤ max vs.length off ∧ VR E x (.agg ((vs.drop off).take e.size).toArray)) ∨ (isAggD e.und = false ∧ ∃ v, vs[off]? = some v ∧ VR E x v) := by
  unfold partA at h
  cases ha : isAggD e.und <;> rw [ha] at h
  · right
    rw [bc_false, nth_eq] at h
    obtain ⟨v, hv, hx⟩ := hr.get h
    exact ⟨rfl, v, hv, hx⟩
  · left
    rw [bc_true, ob_some] at h
    obtain ⟨r, hs, hx⟩ := h
    cases hx
    obtain ⟨rfl, hl, hle⟩ := sub_some hs
    have hlen := hr.len
    refine ⟨rfl, by omega, ?_⟩
    simp only [VR]
    refine ⟨_, rfl, ?_, ?_⟩
    · simp only
      exact VRP.takeR _ (VRP.take _ (VRP.drop _ hr)) (by omega)
    · rw [hl]; simp
      simp at hl
      omega

theorem cellsOf_some {n : Nat} {cs : List AV} (h : cellsOf S n = some cs) : ∃ b, S.heap.get n = some b ∧ b.mut = true ∧ (b = .cells cs ∨ ∃ t, b = .tcells t cs) := by
  unfold cellsOf at h
  rw [ob_some] at h
  obtain ⟨b, hb, h⟩ := h
  split at h
  · cases h; exact ⟨_, hb, rfl, .inl rfl⟩
  · cases h; exact ⟨_, hb, rfl, .inr ⟨_, rfl⟩⟩
  · cases h
theorem readOf_cells {n : Nat} {cs : List AV} (h : cellsOf S n = some cs) : readOf S n = some cs := by
  obtain ⟨b, hb, _, rfl | ⟨t, rfl⟩⟩ := cellsOf_some h <;> simp only [readOf, hb] <;> rfl

theorem entriesOf_some {n : Nat} {es : List ME} {c : Nat} (h : entriesOf S n = some (es, c)) : S.heap.get n = some (.map es c) := by
  unfold entriesOf at h
  rw [ob_some] at h
  obtain ⟨b, hb, h⟩ := h
  split at h
  · cases h; exact hb
  · cases h

/-- what lies behind a name -/
theorem HR.cells {n : Nat} {cs : List AV} (hr : HR E S.heap.get w) (h : cellsOf S n = some cs) :
    ∃ arr el fz, w.heap[E.blk n]? = some (.cells arr el fz) ∧ E.bsz n = arr.size ∧ (∀ i, i < arr.size → (decide (fz.1 ≤ i) && decide (i < fz.2)) = false) ∧ VRP E cs (arr.toList.drop (E.sh n)) := by
  obtain ⟨b, hg, _, hk⟩ := cellsOf_some h
  obtain ⟨_, o, ho, hb⟩ := hr.blk n _ hg
  have hb : BR E n (.cells cs) o := by
    rcases hk with rfl | ⟨t, rfl⟩
    · exact hb
    · exact hb.untype
  simp only [BR] at hb
  obtain ⟨arr, el, fz, rfl, hs, hf, hv⟩ := hb
  exact ⟨arr, el, fz, ho, hs, hf, hv⟩

theorem HR.reads {n : Nat} {cs : List AV} (hr : HR E S.heap.get w) (h : readOf S n = some cs) :
    ∃ arr el fz, w.heap[E.blk n]? = some (.cells arr el fz) ∧ E.bsz n = arr.size ∧ VRP E cs (arr.toList.drop (E.sh n)) := by
  unfold readOf at h
  rw [ob_some] at h
  obtain ⟨b, hb, h⟩ := h
  obtain ⟨_, o, ho, hbr⟩ := hr.blk n _ hb
  split at h
  · cases h
    simp only [BR] at hbr
    obtain ⟨arr, el, fz, rfl, hs, _, hv⟩ := hbr
    exact ⟨arr, el, fz, ho, hs, hv⟩
  · cases h
    simp only [BR] at hbr
    obtain ⟨arr, el, fz, rfl, hs, _, hv⟩ := hbr
    exact ⟨arr, el, fz, ho, hs, hv⟩
  · cases h
    have hbr := hbr.untype
    simp only [BR] at hbr
    obtain ⟨arr, el, fz, rfl, hs, _, hv⟩ := hbr
    exact ⟨arr, el, fz, ho, hs, hv⟩
  · cases h

theorem run_loadVar {t : TypeId} {e : TE} (he : te P t = some e) {b o : Nat} {arr : Array Value} {el : TypeId} {fz : Nat × Nat} (hw : w.heap[b]? = some (.cells arr el fz))
    {cs : List AV} {off : Nat} {x : AV} (h : partA e cs off = some x) (s : Nat) (hr : VRP E cs (arr.toList.drop s)) (ho : o = s + off) :
    ∃ v, (loadVar t ⟨b, o, none⟩).run P w = .ok v w ∧ VR E x v := by
  subst ho
  rcases partA_rel h hr with ⟨ha, hle, hx⟩ | ⟨ha, v, hv, hx⟩
  · refine ⟨_, ?_, hx⟩
    by_cases hz : e.size = 0
    · simp only [loadVar, Sem.run_bind, r_isAgg he, Result.andThen_ok, ha, if_true, r_size he, Sem.run_ite, hz]
      simp [loadCells, loadCellsFrom]
    · have : s + off + e.size ≤ arr.size := by simp at hle; omega
      simp only [loadVar, Sem.run_bind, r_isAgg he, Result.andThen_ok, ha, if_true, r_size he, Sem.run_ite, run_loadCells hw _ this]
      simp
  · refine ⟨v, ?_, hx⟩
    rw [List.getElem?_drop] at hv
    simp only [loadVar, Sem.run_bind, r_isAgg he, Result.andThen_ok, ha, Sem.run_ite, Bool.false_eq_true, if_false]
    exact run_load_at hw (by simpa using hv)

theorem load_run {t : TypeId} {e : TE} (he : te P t = some e) {p x : AV} {v : Value} (h : loadA e S p = some x) (hp : VR E p v) (hr : HR E S.heap.get w) (pr : PR E w) :
    ∃ a u, v = .pointer (some a) ∧ (loadVar t a).run P w = .ok u w ∧ VR E x u := by
  unfold loadA at h
  split at h
  · rename_i n off
    rw [ob_some] at h
    obtain ⟨cs, hc, h⟩ := h
    simp only [VR] at hp
    obtain ⟨_, rfl⟩ := hp
    obtain ⟨arr, el, fz, hw, _, hv⟩ := hr.reads hc
    obtain ⟨u, hu, hx⟩ := run_loadVar he hw h _ hv rfl
    exact ⟨_, u, rfl, hu, hx⟩
  · rename_i cs
    simp only [VR] at hp
    obtain ⟨b, o, rfl, arr, hprot, hv⟩ := hp
    obtain ⟨el, fz, hw⟩ := pr.blk b arr hprot
    obtain ⟨u, hu, hx⟩ := run_loadVar he hw h _ (VRP.mono (Ext.ofIce E) _ _ hv) rfl
    exact ⟨_, u, rfl, hu, hx⟩
  · cases h

theorem load_does {t : TypeId} {e : TE} (he : te P t = some e) {p x : AV} {v : Value} (h : loadA e S p = some x) (hp : VR E p v) (hr : HR E S.heap.get w) (pr : PR E w) :
    DoesR P (Instr.loadAt t v) E w x := by
  obtain ⟨a, u, rfl, hu, hx⟩ := load_run he h hp hr pr
  exact DoesR.of (by simp [Instr.loadAt, Instr.sureAddr, hu]) hx

theorem all_one {xs : List AV} {vs : List Value} (hr : VRP E xs vs) (hl : xs.length = vs.length) (h : xs.all AV.one = true) : ∀ v ∈ vs, v.oneCell' = true := by
  induction xs generalizing vs with
  | nil => cases vs with
    | nil => simp
    | cons _ _ => simp at hl
  | cons x xs ih => cases vs with
    | nil => simp at hl
    | cons v vs =>
      rw [VRP.cons_iff] at hr
      simp only [List.all_cons, Bool.and_eq_true] at h
      intro u hu
      rcases List.mem_cons.1 hu with rfl | hu
      · exact hr.1.one h.1
      · exact ih hr.2 (by simpa using hl) h.2 u hu

/-- cells laid over a block -/
theorem over_does {n off : Nat} {cs new r : List AV} {us : List Value} (hc : cellsOf S n = some cs) (ho : over cs off new = some r) (hu : VRP E new us) (hl : new.length = us.length)
    (hone : new.all AV.one = true) (hr : HR E S.heap.get w) (pr : PR E w) {h' : Nat → Option AB} (hh : ∀ m, h' m = if m = n then some (.cells r) else S.heap.get m) (x : Nat) :
    ∃ w', (storeCells ⟨E.blk n, E.sh n + off, none⟩ us).run P w = .ok () w' ∧ Tran E S.heap.get w x E h' w' x := by
  obtain ⟨arr, el, fz, hw, hs, hf, hv⟩ := hr.cells hc
  have hlen := over_len ho
  have hvl := hv.len
  by_cases hz : us = []
  · subst hz
    refine ⟨w, rfl, ?_⟩
    have hn : new = [] := by cases new with | nil => rfl | cons _ _ => simp at hl
    have : ∀ (cs : List AV) (off : Nat) (r : List AV), over cs off [] = some r → r = cs := by
      intro cs
      induction cs with
      | nil => intro off r h; cases off <;> simp [over, over0] at h; exact h
      | cons c cs ih =>
        intro off r h
        cases off with
        | zero => simp [over, over0] at h; exact h.symm
        | succ k => simp only [over, o2_eq, on3_eq, ob_some, Option.some.injEq] at h; obtain ⟨r', hr', rfl⟩ := h; rw [ih k r' hr']
    subst hn
    have e := this cs off r ho
    subst e
    obtain ⟨b, hb, hm, _⟩ := cellsOf_some hc
    have hheap : w.heap = w.heap.setIfInBounds (E.blk n) (.cells arr el fz) := by
      apply Array.ext_getElem?
      intro i
      rw [Array.getElem?_setIfInBounds]
      split
      · rename_i e
        subst e
        split
        · exact hw
        · rename_i hlt
          exact Array.getElem?_eq_none (by omega)
      · rfl
    refine Tran.set x hr pr hb hm hheap (Env.refl w) hh ?_
    simp only [BR]
    exact ⟨arr, el, fz, rfl, hs, hf, hv⟩
  · have hpos : 0 < us.length := List.length_pos_iff.2 hz
    have hroom : E.sh n + off + 0 + us.length ≤ arr.size := by simp at hvl; omega
    obtain ⟨w', hrun, hheap, henv⟩ := run_storeCells (P := P) (o := E.sh n + off) us 0 w arr hw hf (all_one hu hl hone) hroom
    obtain ⟨b, hb, hm, _⟩ := cellsOf_some hc
    refine ⟨w', hrun, Tran.set x hr pr hb hm hheap henv hh ?_⟩
    simp only [BR]
    refine ⟨_, el, fz, rfl, ?_, ?_, ?_⟩
    · rw [overArr_size _ _ _ (by omega)]; exact hs
    · rw [overArr_size _ _ _ (by omega)]; exact hf
    · have := over_rel ho hv hu hl
      have e : (overArr arr (E.sh n + off + 0) us).toList.drop (E.sh n) = (arr.toList.drop (E.sh n)).take off ++ us ++ (arr.toList.drop (E.sh n)).drop (off + us.length) := by
        unfold overArr
        simp only [Nat.add_zero, List.append_assoc]
        rw [List.drop_append_of_le_length (by simp; omega), List.drop_take]
        congr 1
        · congr 1; omega
        · rw [List.drop_drop]; congr 2; omega
      rw [e]; exact this

theorem store_does {t : TypeId} {e : TE} (he : te P t = some e) {p x : AV} {v u : Value} (h : storeA e S p x = some S') (hp : VR E p v) (hx : VR E x u) (hr : HR E S.heap.get w) (pr : PR E w) :
    ∃ w', (Instr.storeAt t v u).run P w = .ok () w' ∧ Tran E S.heap.get w S.next E S'.heap.get w' S'.next := by
  unfold storeA at h
  split at h
  · rename_i n off
    simp only [o2_eq, on3_eq, ob_some, chk_some, Option.some.injEq, Bool.and_eq_true] at h
    obtain ⟨cs, hc, _, ⟨hsz, hone⟩, r, ho, rfl⟩ := h
    simp only [VR] at hp
    obtain ⟨_, rfl⟩ := hp
    rw [nbeq_iff] at hsz
    obtain ⟨h1, h2⟩ := hx.cells
    obtain ⟨w', hrun, ht⟩ := over_does (P := P) (h' := (S.heap.put n (.cells r)).get) hc ho h1 (by simpa using h2) hone hr pr (fun m => by rw [Tr.get_put]) S.next
    refine ⟨w', ?_, ht⟩
    have hsize : u.cells.size = e.size := by omega
    simp [Instr.storeAt, Instr.sureAddr, storeVar, r_size he, hsize, hrun]
  · cases h

theorem storeVar_run {t : TypeId} {e : TE} (he : te P t = some e) {n off : Nat} {x : AV} {u : Value} (h : storeA e S (.mp n off) x = some S') (hx : VR E x u) (hr : HR E S.heap.get w) (pr : PR E w) :
    ∃ w', (storeVar t ⟨E.blk n, E.sh n + off, none⟩ u).run P w = .ok () w' ∧ Tran E S.heap.get w S.next E S'.heap.get w' S'.next := by
  unfold storeA at h
  simp only [o2_eq, on3_eq, ob_some, chk_some, Option.some.injEq, Bool.and_eq_true] at h
  obtain ⟨cs, hc, _, ⟨hsz, hone⟩, r, ho, rfl⟩ := h
  rw [nbeq_iff] at hsz
  obtain ⟨h1, h2⟩ := hx.cells
  obtain ⟨w', hrun, ht⟩ := over_does (P := P) (h' := (S.heap.put n (.cells r)).get) hc ho h1 (by simpa using h2) hone hr pr (fun m => by rw [Tr.get_put]) S.next
  refine ⟨w', ?_, ht⟩
  have hsize : u.cells.size = e.size := by omega
  simp [storeVar, r_size he, hsize, hrun]

theorem loadVar_run {t : TypeId} {e : TE} (he : te P t = some e) {n off : Nat} {x : AV} (h : loadA e S (.mp n off) = some x) (hr : HR E S.heap.get w) :
    ∃ u, (loadVar t ⟨E.blk n, E.sh n + off, none⟩).run P w = .ok u w ∧ VR E x u := by
  unfold loadA at h
  simp only [o2_eq, on3_eq, ob_some] at h
  obtain ⟨cs, hc, h⟩ := h
  obtain ⟨arr, el, fz, hw, _, hv⟩ := hr.reads hc
  exact run_loadVar he hw h _ hv rfl

/-! new blocks -/
theorem newB_does {b : AB} {o : Obj} {z : Nat} (hr : HR E S.heap.get w) (pr : PR E w) (hx : ¬ E.dom S.next) (hb : BR (E.add S.next w.heap.size 0 z) S.next b o) {w' : World} (hw : w'.heap = w.heap.push o) (he : Env w w') :
    Tran E S.heap.get w S.next (E.add S.next w.heap.size 0 z) (newB S b).heap.get w' (newB S b).next :=
  Tran.new hr pr hx hw he (fun n => by simp only [newB, Tr.get_put]) hb

theorem BR.row {E' : Gh} {n : Nat} {cs : List AV} {vs : Array Value} {el : TypeId} (b : Bool) (hs : E'.bsz n = vs.size) (h0 : E'.sh n = 0) (h : VRP E' cs vs.toList) : BR E' n (rowB b el cs) (.cells vs el) :=
  BR.ofRow (fz := (0, 0)) h0 hs (fun i _ => by simp) (by rw [h0]; simpa using h)

theorem add_self (E : Gh) (x b s z : Nat) : (E.add x b s z).dom x ∧ (E.add x b s z).blk x = b ∧ (E.add x b s z).sh x = s ∧ (E.add x b s z).bsz x = z :=
  ⟨.inr rfl, if_pos rfl, if_pos rfl, if_pos rfl⟩

/-- a new row of cells: the pointer to it -/
theorem newRowB_does {cs : List AV} {vs : Array Value} (b : Bool) (el : TypeId) (hr : HR E S.heap.get w) (pr : PR E w) (hx : ¬ E.dom S.next) (h : VRP E cs vs.toList) :
    ∃ a w' E', (newRow el vs).run P w = .ok a w' ∧ E'.dom S.next ∧ a = ⟨E'.blk S.next, E'.sh S.next, none⟩ ∧ E'.sh S.next = 0 ∧ E'.bsz S.next = vs.size ∧ Tran E S.heap.get w S.next E' (newB S (rowB b el cs)).heap.get w' (newB S (rowB b el cs)).next := by
  obtain ⟨a1, a2, a3, a4⟩ := add_self E S.next w.heap.size 0 vs.size
  refine ⟨⟨w.heap.size, 0, none⟩, _, E.add S.next w.heap.size 0 vs.size, by simp only [newRow, Sem.run_bind, run_newObj, Result.andThen_ok]; rfl, a1, by rw [a2, a3], a3, a4, ?_⟩
  exact newB_does hr pr hx (BR.row b a4 a3 (VRP.mono (Ext.add hx _ _ _) _ _ h)) rfl ⟨rfl, rfl, rfl⟩

theorem newRow_does {cs : List AV} {vs : Array Value} (el : TypeId) (hr : HR E S.heap.get w) (pr : PR E w) (hx : ¬ E.dom S.next) (h : VRP E cs vs.toList) :
    ∃ a w' E', (newRow el vs).run P w = .ok a w' ∧ E'.dom S.next ∧ a = ⟨E'.blk S.next, E'.sh S.next, none⟩ ∧ E'.sh S.next = 0 ∧ E'.bsz S.next = vs.size ∧ Tran E S.heap.get w S.next E' (newB S (.cells cs)).heap.get w' (newB S (.cells cs)).next :=
  newRowB_does false el hr pr hx h

theorem alloc_does {b : Bool} {t : TypeId} {e : TE} (he : te P t = some e) (hr : HR E S.heap.get w) (pr : PR E w) (hx : ¬ E.dom S.next) :
    DoesV P (Instr.alloc t true (.tuple #[])) E S w (.mp S.next 0) (newB S (rowB b t e.zero.cells)) := by
  obtain ⟨z, hz, hzr⟩ := r_zero he
  obtain ⟨a, w', E', hrun, h1, h2, h3, _, ht⟩ := newRowB_does (P := P) b t hr pr hx (cv_rel E hz).cells.1
  refine ⟨.pointer (some a), w', E', ?_, ?_, ht⟩
  · simp [Instr.alloc, hzr, newVar, hrun]
  · simp only [VR]; exact ⟨h1, by rw [h2]; simp⟩

theorem allocArr_does {t : TypeId} {e : TE} {v : AV} (he : te P t = some e) (h : allocArr P e S = some (v, S')) (hr : HR E S.heap.get w) (pr : PR E w) (hx : ¬ E.dom S.next) :
    S' = newB S (.cells e.zero.cells) ∧ DoesV P (Instr.alloc t true (.tuple #[])) E S w v S' := by
  unfold allocArr at h
  split at h
  · rename_i m el hu
    simp only [o2_eq, on3_eq, ob_some, chk_some, Option.some.injEq, Prod.mk.injEq, nbeq_iff] at h
    obtain ⟨g, hg, _, hl, rfl, rfl⟩ := h
    refine ⟨rfl, ?_⟩
    obtain ⟨z, hz, hzr⟩ := r_zero he
    obtain ⟨a, w', E', hrun, h1, h2, h3, h4, ht⟩ := newRow_does (P := P) t hr pr hx (cv_rel E hz).cells.1
    have h5 := (cv_rel E hz).cells.2
    refine ⟨.pointer (some a), w', E', ?_, ?_, ht⟩
    · simp [Instr.alloc, hzr, newVar, hrun]
    · simp only [VR]; exact ⟨h1, by rw [h2], by rw [h3, h4]; omega⟩
  · cases h

theorem box_does {t : TypeId} {x : AV} {v : Value} (hv : VR E x v) (hr : HR E S.heap.get w) (pr : PR E w) (hx : ¬ E.dom S.next) :
    DoesV P (Instr.box t v) E S w (.mp S.next 0) (newB S (.cells x.cells)) := by
  obtain ⟨a, w', E', hrun, h1, h2, h3, _, ht⟩ := newRow_does (P := P) t hr pr hx hv.cells.1
  refine ⟨.pointer (some a), w', E', ?_, ?_, ht⟩
  · simp [Instr.box, newVar, hrun]
  · simp only [VR]; exact ⟨h1, by rw [h2]; simp⟩

/-! literals of structs, arrays, slices -/
def PartsR (E : Gh) : List (Nat × AV) → List (Nat × Value) → Prop
  | [], [] => True
  | p :: ps, q :: qs => p.1 = q.1 ∧ VR E p.2 q.2 ∧ PartsR E ps qs
  | _, _ => False

theorem fold_over : ∀ (us : List Value) (k off : Nat) (arr : Array Value), off + k + us.length ≤ arr.size →
    ((us.zipIdx k).foldl (fun cs (p : Value × Nat) => cs.setIfInBounds (off + p.2) p.1) arr) = overArr arr (off + k) us
  | [], k, off, arr, _ => by simp [overArr_nil]
  | u :: us, k, off, arr, h => by
    simp only [List.zipIdx_cons, List.foldl_cons]
    rw [fold_over us (k + 1) off _ (by simp at h ⊢; omega), show off + (k + 1) = off + k + 1 from by omega, overArr_cons _ _ _ _ (by simpa using h)]

theorem PartsR.mono {E E' : Gh} (x : Ext E E') : ∀ (ps : List (Nat × AV)) (qs : List (Nat × Value)), PartsR E ps qs → PartsR E' ps qs
  | [], [], h => h
  | [], _ :: _, h => by simp only [PartsR] at h
  | _ :: _, [], h => by simp only [PartsR] at h
  | p :: ps, q :: qs, h => by
    simp only [PartsR] at h ⊢
    exact ⟨h.1, VR.mono x _ _ h.2.1, PartsR.mono x ps qs h.2.2⟩
theorem fill_rel {place place' : Nat → Option (Nat × Nat)} (hp : ∀ i p, place i = some p → place' i = some p) :
    ∀ (parts : List (Nat × AV)) (qs : List (Nat × Value)) (cells r : List AV) (arr : Array Value), fillA place cells parts = some r → PartsR E parts qs → VRP E cells arr.toList → cells.length = arr.size →
      ∃ arr', Instr.fill place' arr qs = some arr' ∧ VRP E r arr'.toList ∧ r.length = arr'.size
  | [], [], cells, r, arr, h, _, hc, hl => by
    simp only [fillA, Option.some.injEq] at h
    subst h
    exact ⟨arr, rfl, hc, hl⟩
  | [], _ :: _, _, _, _, _, hq, _, _ => by simp only [PartsR] at hq
  | _ :: _, [], _, _, _, _, hq, _, _ => by simp only [PartsR] at hq
  | (i, x) :: parts, (j, v) :: qs, cells, r, arr, h, hq, hc, hl => by
    simp only [PartsR] at hq
    obtain ⟨rfl, hx, hq⟩ := hq
    simp only [fillA, o2_eq, on3_eq, ob_some, chk_some] at h
    obtain ⟨⟨off, size⟩, hpl, _, hsz, r1, ho, h⟩ := h
    rw [nbeq_iff] at hsz
    simp only at hsz ho
    obtain ⟨h1, h2⟩ := hx.cells
    have hol := over_len ho
    have hov := over_rel ho hc h1 (by simpa using h2)
    have hroom : off + v.cells.size ≤ arr.size := by omega
    obtain ⟨arr', hf, hr', hl'⟩ := fill_rel hp parts qs r1 r (overArr arr off v.cells.toList) h hq (by
      unfold overArr
      simpa using hov) (by rw [overArr_size _ _ _ (by simpa using hroom)]; omega)
    refine ⟨arr', ?_, hr', hl'⟩
    simp only [Instr.fill, hp i _ hpl]
    rw [if_neg (by simp; omega)]
    have := fold_over v.cells.toList 0 off arr (by simpa using hroom)
    rw [← Array.foldl_toList, Array.toList_zipIdx]
    simp only [Nat.add_zero] at this
    rw [this]; exact hf

theorem places_run : ∀ {fs : List Field} {ps : List (Nat × Nat)}, placesA P fs = some ps → (fs.mapM fun f => Prod.mk f.offset <$> sizeOf f.type).run P w = .ok ps w
  | [], ps, h => by simp only [placesA, Option.some.injEq] at h; subst h; rfl
  | f :: fs, ps, h => by
    simp only [placesA, o2_eq, on3_eq, ob_some, Option.some.injEq] at h
    obtain ⟨g, hg, r, hr, rfl⟩ := h
    simp [List.mapM_cons, r_size hg, places_run hr]

theorem build_rel {t : TypeId} {parts : List (Nat × AV)} {qs : Array (Nat × Value)} {x : AV} (h : buildA P t parts = some x) (hq : PartsR E parts qs.toList) :
    ∃ v, (∀ w, (Instr.build t qs).run P w = .ok v w) ∧ VR E x v := by
  simp only [buildA, o2_eq, on3_eq, ob_some] at h
  obtain ⟨e, he, h⟩ := h
  obtain ⟨z, hz, hzr⟩ := r_zero he
  obtain ⟨hz1, hz2⟩ := (cv_rel E hz).cells
  split at h
  · rename_i fields hund
    simp only [o2_eq, on3_eq, ob_some, Option.some.injEq] at h
    obtain ⟨ps, hps, r, hf, rfl⟩ := h
    obtain ⟨arr', hfill, h1, h2⟩ := fill_rel (place' := fun i => ps[i]?) (fun i p hp => hp) _ _ _ _ _ hf hq hz1 (by simpa using hz2)
    refine ⟨.agg arr', fun w => ?_, by simp only [VR]; exact ⟨_, rfl, h1, h2⟩⟩
    have hm : (fields.mapM fun (f : Field) => Prod.mk f.offset <$> sizeOf f.type).run P w = .ok ps.toArray w := by
      rw [Array.mapM_eq_mapM_toList, Sem.run_map, places_run hps]
      rfl
    simp [Instr.build, hzr, r_und he, hund, hm, hfill]
  · rename_i n elem hund
    simp only [o2_eq, on3_eq, ob_some, Option.some.injEq] at h
    obtain ⟨g, hg, r, hf, rfl⟩ := h
    obtain ⟨arr', hfill, h1, h2⟩ := fill_rel (place' := fun i => some (i * g.size, g.size)) (fun i p hp => hp) _ _ _ _ _ hf hq hz1 (by simpa using hz2)
    refine ⟨.agg arr', fun w => ?_, by simp only [VR]; exact ⟨_, rfl, h1, h2⟩⟩
    simp [Instr.build, hzr, r_und he, hund, r_size hg, hfill]
  · cases h


theorem repl_cells : ∀ (z : List Value) (n : Nat), z ≠ [] → ((List.range (n * z.length)).map fun i => z[i % z.length]!) = (List.replicate n z).flatten
  | z, 0, _ => by simp
  | z, n + 1, hz => by
    have hl : 0 < z.length := List.length_pos_iff.2 hz
    rw [Nat.add_mul, Nat.one_mul, Nat.add_comm, List.range_add, List.map_append, List.map_map, List.replicate_succ, List.flatten_cons]
    congr 1
    · apply List.ext_getElem
      · simp
      · intro i h1 h2
        simp at h1
        simp [Nat.mod_eq_of_lt h1, h1]
    · rw [← repl_cells z n hz]
      apply List.map_congr_left
      intro i _
      simp

theorem repl_rel {zs : List AV} {z : List Value} (h : VRP E zs z) (hl : zs.length = z.length) : ∀ n, VRP E (repl zs n) (List.replicate n z).flatten ∧ (repl zs n).length = n * zs.length
  | 0 => by simp [repl, VRP.nil]
  | n + 1 => by
    have ih := repl_rel h hl n
    simp only [repl, List.replicate_succ, List.flatten_cons, List.length_append, ih.2]
    exact ⟨VRP.append h hl ih.1, by rw [Nat.add_mul]; omega⟩

/-- the cells of a new row of zero values -/
theorem zeros_rel {g : TE} {z : Value} (hz : cv z = some g.zero) (hg : g.zero.cells.length = g.size) (n : Nat) :
    VRP E (repl g.zero.cells n) ((Array.range (n * g.size)).map ((if n * g.size = 0 then #[] else z.cells)[· % (if n * g.size = 0 then #[] else z.cells).size]!)).toList ∧
      (repl g.zero.cells n).length = n * g.size := by
  obtain ⟨h1, h2⟩ := (cv_rel E hz).cells
  have hr := repl_rel h1 (by simpa using h2) n
  refine ⟨?_, by rw [hr.2, hg]⟩
  by_cases h0 : n * g.size = 0
  · have : repl g.zero.cells n = [] := List.eq_nil_of_length_eq_zero (by rw [hr.2, hg, h0])
    rw [this]; exact VRP.nil
  · have hs : z.cells.size = g.size := by omega
    have hne : z.cells.toList ≠ [] := by
      intro e
      have : z.cells.size = 0 := by simpa using congrArg List.length e
      rw [hs] at this; rw [this] at h0; simp at h0
    have := repl_cells z.cells.toList n hne
    simp only [h0, if_false, Array.toList_map, Array.toList_range]
    have e : (List.range (n * g.size)).map (fun x => z.cells[x % z.cells.size]!) = (List.replicate n z.cells.toList).flatten := by
      rw [← this, show z.cells.toList.length = g.size from by simpa using hs]
      apply List.map_congr_left
      intro i _
      rw [hs]
      simp [getElem!_def]
    rw [e]; exact hr.1

theorem buildSlice_does {t : TypeId} {len : Nat} {parts : List (Nat × AV)} {qs : Array (Nat × Value)} {x : AV} (h : buildSliceA P S t len parts = some (x, S')) (hq : PartsR E parts qs.toList)
    (hr : HR E S.heap.get w) (pr : PR E w) (hx : ¬ E.dom S.next) : DoesV P (Instr.buildSlice t len qs) E S w x S' := by
  simp only [buildSliceA, o2_eq, on3_eq, ob_some, chk_some, Bool.and_eq_true, Option.some.injEq, Prod.mk.injEq, nble_iff, nbeq_iff] at h
  obtain ⟨e, he, elem, hel, g, hg, _, ⟨hb, hgz⟩, r, hf, rfl, rfl⟩ := h
  have hund : e.und = .slice elem := by
    unfold sliceOf at hel
    split at hel <;> simp_all
  obtain ⟨z, hz, hzr⟩ := r_zero hg
  obtain ⟨hz1, hz2⟩ := zeros_rel (E := E) hz hgz len
  obtain ⟨arr', hfill, h1, h2⟩ := fill_rel (place' := fun i => some (i * g.size, g.size)) (fun i p hp => hp) _ _ _ _ _ hf hq hz1 (by rw [hz2]; simp)
  obtain ⟨a, w', E', hrun, d1, d2, d3, d4, ht⟩ := newRow_does (P := P) elem hr pr hx h1
  refine ⟨.slice (some a) len len, w', E', ?_, ?_, ht⟩
  · have hno : ¬ (len * g.size > 2 ^ 24) := by
      have : (2 : Nat) ^ 24 = 16777216 := rfl
      omega
    generalize hzc : (if len * g.size = 0 then #[] else z.cells) = zc at hfill
    simp only [Instr.buildSlice, Sem.run_bind, r_und he, hund, Result.andThen_ok, r_size hg, bind_pure_comp]
    rw [if_neg hno]
    by_cases h0 : len * g.size = 0
    · rw [if_pos h0] at hzc ⊢
      subst hzc
      simp only [Sem.run_bind, Sem.run_pure, Result.andThen_ok, hfill, Sem.run_map, hrun]
    · rw [if_neg h0] at hzc ⊢
      subst hzc
      simp only [Sem.run_bind, hzr, Sem.run_pure, Result.andThen_ok, hfill, Sem.run_map, hrun]
  · simp only [VR]
    have hlen : r.length = len * g.size := by
      have : ∀ (ps : List (Nat × AV)) (pl : Nat → Option (Nat × Nat)) (c r : List AV), fillA pl c ps = some r → r.length = c.length := by
        intro ps
        induction ps with
        | nil => intro pl c r h; simp only [fillA, Option.some.injEq] at h; subst h; rfl
        | cons p ps ih =>
          intro pl c r h
          obtain ⟨i, v⟩ := p
          simp only [fillA, o2_eq, on3_eq, ob_some, chk_some] at h
          obtain ⟨_, _, _, _, r1, ho, h⟩ := h
          rw [ih _ _ _ h, (over_len ho).2]
      rw [this _ _ _ _ hf, hz2]
    refine ⟨d1, len, by rw [d2]; simp, Nat.le_refl _, by rw [d3, d4]; omega, fun k hk => by cases hk; rfl⟩

theorem wrap64_small {n : Nat} (h : n ≤ big) : IntKind.i64.wrap (n : Int) = n := by
  unfold big at h
  simp only [IntKind.wrap, IntKind.bits, IntKind.signed]
  have e : ((n : Int) % (2 ^ 64 : Int)) = n := Int.emod_eq_of_lt (by omega) (by omega)
  simp only [e]
  rw [if_neg]
  simp
  omega

theorem makeSlice_does {t : TypeId} {l c x : AV} {lv cv' : Value} (h : makeSliceA P S t l c = some (x, S')) (hl : VR E l lv) (hc : VR E c cv')
    (hr : HR E S.heap.get w) (pr : PR E w) (hx : ¬ E.dom S.next) : DoesV P (Instr.makeSlice t lv cv') E S w x S' := by
  simp only [makeSliceA, o2_eq, on3_eq, ob_some, chk_some, Bool.and_eq_true, Option.some.injEq, Prod.mk.injEq, nble_iff, nbeq_iff] at h
  obtain ⟨n, hn, m, hm, e, he, elem, hel, g, hg, _, ⟨⟨⟨hb1, hb2⟩, hb3⟩, hgz⟩, rfl, rfl⟩ := h
  obtain ⟨k1, rfl⟩ := asN_rel hn hl
  obtain ⟨k2, rfl⟩ := asN_rel hm hc
  have hund : e.und = .slice elem := by
    unfold sliceOf at hel
    split at hel <;> simp_all
  obtain ⟨z, hz, hzr⟩ := r_zero hg
  obtain ⟨i, hi, hi1, hi2⟩ := r_info hg
  obtain ⟨hz1, hz2⟩ := zeros_rel (E := E) hz hgz m
  obtain ⟨a, w', E', hrun, d1, d2, d3, d4, ht⟩ := newRow_does (P := P) elem hr pr hx hz1
  have w1 := wrap64_small (Nat.le_trans hb1 hb3)
  have w2 := wrap64_small hb3
  refine ⟨.slice (some a) n m, w', E', ?_, ?_, ht⟩
  · have t1 : ¬ ((i.bytes : Int) * (m : Int) > 2 ^ 48) := by
      have h48 : (2 : Int) ^ 48 = 281474976710656 := rfl
      rw [h48, hi2, ← Int.natCast_mul]
      unfold big at hb2
      omega
    have t2 : (decide ((m : Int) < 0) || decide ((n : Int) < 0) || decide ((n : Int) > (m : Int))) = false := by
      simp; omega
    generalize hzc : (if m * g.size = 0 then #[] else z.cells) = zc at hrun
    simp only [Instr.makeSlice, Sem.run_bind, r_und he, hund, Result.andThen_ok, asInt, asIntOf, Sem.run_pure, hi, w1, w2, bind_pure_comp, Sem.run_map, t1, decide_false, Bool.or_false]
    rw [t2]
    simp only [Bool.false_eq_true, if_false, Sem.run_bind, run_askRoom, Result.andThen_ok, r_size hg, Int.toNat_natCast]
    by_cases h0 : m * g.size = 0
    · rw [if_pos h0] at hzc ⊢
      subst hzc
      simp only [Sem.run_bind, Sem.run_pure, Result.andThen_ok, Sem.run_map, hrun]
    · rw [if_neg h0] at hzc ⊢
      subst hzc
      simp only [Sem.run_bind, hzr, Sem.run_pure, Result.andThen_ok, Sem.run_map, hrun]
  · simp only [VR]
    refine ⟨d1, m, by rw [d2]; simp, hb1, by rw [d3, d4]; simp, fun k hk => by cases hk; rfl⟩

end
end Go.Eng
namespace Go.Eng
set_option linter.unusedSectionVars false
variable [Gl] [Mx]

theorem sliceOf_some {d : TypeDesc} {t : TypeId} (h : sliceOf d = some t) : d = .slice t := by
  unfold sliceOf at h; split at h <;> simp_all
theorem structOf_some {d : TypeDesc} {fs : List Field} (h : structOf d = some fs) : ∃ a, d = .struct a ∧ a.toList = fs := by
  unfold structOf at h; split at h <;> simp_all
theorem mapOf_some {d : TypeDesc} {k e : TypeId} (h : mapOf d = some (k, e)) : d = .map k e := by
  unfold mapOf at h; split at h <;> simp_all

section
variable {P : Program} {E : Gh} {S S' : St} {w : World} {T : Tm} {ρ : Operand → Value}

/-- the operands that an operation looks at are described -/
def OR (E : Gh) (T : Tm) (ρ : Operand → Value) (xs : List Operand) : Prop := ∀ x ∈ xs, ∀ v, ev T x = some v → VR E v (ρ x)

theorem bnd_rel {o : Option Operand} {d n : Nat} (h : bnd T o d = some n) (ho : ∀ x, o = some x → ∀ v, ev T x = some v → VR E v (ρ x)) :
    (o = none ∧ n = d) ∨ ∃ x k, o = some x ∧ ρ x = .int k n := by
  unfold bnd at h
  split at h
  · cases h; exact .inl ⟨rfl, rfl⟩
  · rename_i x
    rw [ob_some] at h
    obtain ⟨v, hv, hn⟩ := h
    obtain ⟨k, hk⟩ := asN_rel hn (ho x rfl v hv)
    exact .inr ⟨x, k, rfl, hk⟩

theorem run_sliceBound {k : IntKind} {n y : Nat} (c : BoundsCode) (h : n ≤ y) : (Instr.sliceBound (.int k n) y c).run P w = .ok n w := by
  simp [Instr.sliceBound, asIntOf, h]

theorem run_bounds {isSlice : Bool} {len cap : Nat} {lo hi : Option Operand} {l h : Nat} (hl : bnd T lo 0 = some l) (hh : bnd T hi len = some h) (h1 : l ≤ h) (h2 : h ≤ cap)
    (ho : ∀ x, lo = some x ∨ hi = some x → ∀ v, ev T x = some v → VR E v (ρ x)) : (Instr.sliceBounds isSlice len cap (lo.map ρ) (hi.map ρ) none).run P w = .ok (l, h, cap) w := by
  rcases bnd_rel hl (fun x hx => ho x (.inl hx)) with ⟨rfl, rfl⟩ | ⟨x, k, rfl, hx⟩ <;> rcases bnd_rel hh (fun x hx => ho x (.inr hx)) with ⟨rfl, rfl⟩ | ⟨y, k', rfl, hy⟩
  · simp [Instr.sliceBounds]
  · simp [Instr.sliceBounds, hy, run_sliceBound _ h2]
  · simp [Instr.sliceBounds, hx, run_sliceBound _ h1]
  · simp [Instr.sliceBounds, hx, hy, run_sliceBound _ h1, run_sliceBound _ h2]

theorem slice3_does {t : TypeId} {x y : AV} {lo hi : Option Operand} {mx : Operand} {v : Value} (h : slice3A P T t x lo hi mx = some y) (hx : VR E x v)
    (ho : ∀ x, hi = some x ∨ mx = x → ∀ v, ev T x = some v → VR E v (ρ x)) (hr : HR E S.heap.get w) (pr : PR E w) :
    DoesV P (Instr.sliceAt t v (lo.map ρ) (hi.map ρ) (some (ρ mx))) E S w y S := by
  simp only [slice3A, o2_eq, on3_eq, ob_some] at h
  obtain ⟨e, he, h⟩ := h
  have bd : ∀ {cap h m len : Nat} {hi : Operand}, ((ev T hi).ob asN) = some h → ((ev T mx).ob asN) = some m → h ≤ m → m ≤ cap → (∀ v, ev T hi = some v → VR E v (ρ hi)) → (∀ v, ev T mx = some v → VR E v (ρ mx)) →
      (Instr.sliceBounds true len cap none (some (ρ hi)) (some (ρ mx))).run P w = .ok (0, h, m) w := by
    intro cap h m len hi hh hm h1 h2 o1 o2
    obtain ⟨a, ha, ha'⟩ := ob_some.1 hh
    obtain ⟨b, hb, hb'⟩ := ob_some.1 hm
    obtain ⟨k, hk⟩ := asN_rel ha' (o1 a ha)
    obtain ⟨k', hk'⟩ := asN_rel hb' (o2 b hb)
    simp [Instr.sliceBounds, hk, hk', run_sliceBound _ h1, run_sliceBound _ h2]
  split at h
  · rename_i elem hi hund
    simp only [o2_eq, on3_eq, ob_some, chk_some, Bool.and_eq_true, nble_iff, Option.some.injEq] at h
    obtain ⟨g, hg, h', hh, m', hm, _, ⟨h1, h2⟩, rfl⟩ := h
    simp only [VR] at hx
    subst hx
    obtain rfl : h' = 0 := by omega
    obtain rfl : m' = 0 := by omega
    have hb := bd (cap := 0) (len := 0) (ob_some.2 hh) (ob_some.2 hm) (Nat.le_refl 0) (Nat.le_refl 0) (ho _ (.inl rfl)) (ho _ (.inr rfl))
    refine DoesV.same hr pr ?_ (v' := .slice none 0 0) (by simp only [VR])
    simp only [Instr.sliceAt, Sem.run_bind, r_und he, hund, Result.andThen_ok, Instr.slice, Option.map_none, Option.map_some]
    simp only [hb, Result.andThen_ok, r_size hg, Sem.run_pure]
    simp
  · rename_i elem n off len cap z hi hund
    simp only [o2_eq, on3_eq, ob_some, chk_some, nbeq_iff, Bool.and_eq_true, nble_iff, Option.some.injEq] at h
    obtain ⟨g, hg, _, rfl, h', hh, m', hm, _, ⟨h1, h2⟩, rfl⟩ := h
    simp only [VR] at hx
    obtain ⟨d, c, rfl, hlc, hroom, hcap⟩ := hx
    have hb := bd (cap := c) (len := len) (ob_some.2 hh) (ob_some.2 hm) h1 (Nat.le_trans h2 hlc) (ho _ (.inl rfl)) (ho _ (.inr rfl))
    refine DoesV.same hr pr (v' := .slice (some ⟨E.blk n, E.sh n + off, none⟩) h' m') ?_ ?_
    · simp only [Instr.sliceAt, Sem.run_bind, r_und he, hund, Result.andThen_ok, Instr.slice, Option.map_none, Option.map_some]
      simp only [hb, Result.andThen_ok, r_size hg, Sem.run_pure]
      by_cases e : m' = 0
      · simp [e]
      · simp [e, add_mk]
    · simp only [VR]
      refine ⟨d, m', rfl, h1, ?_, fun k hk => by cases hk; rfl⟩
      have : m' * g.size ≤ c * g.size := Nat.mul_le_mul_right _ (by omega)
      omega
  · cases h

theorem slice_does {t : TypeId} {x y : AV} {lo hi mx : Option Operand} {v : Value} (h : sliceA P T t x lo hi mx = some y) (hx : VR E x v)
    (ho : ∀ x, lo = some x ∨ hi = some x ∨ mx = some x → ∀ v, ev T x = some v → VR E v (ρ x)) (hr : HR E S.heap.get w) (pr : PR E w) :
    DoesV P (Instr.sliceAt t v (lo.map ρ) (hi.map ρ) (mx.map ρ)) E S w y S := by
  unfold sliceA at h
  cases mx with
  | some m => exact slice3_does h hx (fun x hx => ho x (hx.elim (fun h => .inr (.inl h)) (fun h => .inr (.inr (congrArg some h))))) hr pr
  | none =>
  have ho : ∀ x, lo = some x ∨ hi = some x → ∀ v, ev T x = some v → VR E v (ρ x) := fun x h => ho x (h.elim .inl (fun h => .inr (.inl h)))
  simp only [o2_eq, on3_eq, ob_some, chk_some] at h
  obtain ⟨e, he, h⟩ := h
  split at h
  · rename_i s hund
    simp only [o2_eq, on3_eq, ob_some, chk_some, Bool.and_eq_true, nble_iff, Option.some.injEq] at h
    obtain ⟨l, hl, h', hh, _, ⟨h1, h2⟩, rfl⟩ := h
    simp only [VR] at hx
    subst hx
    refine DoesV.same hr pr ?_ (v' := .string (s.extract l h')) (by simp only [VR])
    simp only [Instr.sliceAt, Sem.run_bind, r_und he, hund, Result.andThen_ok, Instr.slice, Option.map_none, Option.isSome_none, Bool.false_eq_true, if_false]
    simp only [run_bounds hl hh h1 h2 ho, Result.andThen_ok, Sem.run_pure]
  · rename_i elem hund
    simp only [o2_eq, on3_eq, ob_some, chk_some, Bool.and_eq_true, nble_iff, Option.some.injEq] at h
    obtain ⟨g, hg, l, hl, h', hh, _, ⟨h1, h2⟩, rfl⟩ := h
    simp only [VR] at hx
    subst hx
    obtain rfl : h' = 0 := by omega
    obtain rfl : l = 0 := by omega
    refine DoesV.same hr pr ?_ (v' := .slice none 0 0) (by simp only [VR])
    simp only [Instr.sliceAt, Sem.run_bind, r_und he, hund, Result.andThen_ok, Instr.slice, Option.map_none]
    simp only [run_bounds hl hh h1 h2 ho, Result.andThen_ok, r_size hg, Sem.run_pure]
    simp
  · rename_i elem n off len cap z hund
    simp only [o2_eq, on3_eq, ob_some, chk_some, nbeq_iff] at h
    obtain ⟨g, hg, _, rfl, l, hl, h', hh, h⟩ := h
    simp only [VR] at hx
    obtain ⟨d, c, rfl, hlc, hroom, hcap⟩ := hx
    have run : ∀ (h1 : l ≤ h') (h2 : h' ≤ c), (Instr.sliceAt t (.slice (some ⟨E.blk n, E.sh n + off, none⟩) len c) (lo.map ρ) (hi.map ρ) (Option.map ρ none)).run P w =
        .ok (.slice (some (if c = l then ⟨E.blk n, E.sh n + off, none⟩ else ⟨E.blk n, E.sh n + off + l * g.size, none⟩)) (h' - l) (c - l)) w := by
      intro h1 h2
      simp only [Instr.sliceAt, Sem.run_bind, r_und he, hund, Result.andThen_ok, Instr.slice, Option.map_none]
      simp only [run_bounds hl hh h1 h2 ho, Result.andThen_ok, r_size hg, Sem.run_pure]
      by_cases e : c = l
      · simp [e]
      · simp [e, add_mk]
    unfold cutMs at h
    split at h
    · rename_i k
      simp only [o2_eq, on3_eq, ob_some, chk_some, Bool.and_eq_true, nble_iff, Option.some.injEq] at h
      obtain ⟨_, ⟨h1, h2⟩, rfl⟩ := h
      obtain rfl : c = k := hcap k rfl
      refine DoesV.same hr pr (run h1 h2) ?_
      simp only [VR]
      refine ⟨d, c - l, ?_, by omega, ?_, fun k hk => by cases hk; rfl⟩
      · by_cases e : c = l
        · rw [if_pos e, nbeq_iff.2 e, bc_true]
        · rw [if_neg e, nbeq_false e, bc_false]; simp [Nat.add_assoc]
      · by_cases e : c = l
        · rw [nbeq_iff.2 e, bc_true, e]; simp; subst e; have := Nat.zero_le (c * g.size); omega
        · rw [nbeq_false e, bc_false, Nat.sub_mul]
          have : l * g.size ≤ c * g.size := Nat.mul_le_mul_right _ (by omega)
          omega
    · simp only [o2_eq, on3_eq, ob_some, chk_some, Bool.and_eq_true, nble_iff] at h
      obtain ⟨_, ⟨h1, h2⟩, h⟩ := h
      have hrun := run h1 (by omega)
      by_cases l0 : l = 0
      · subst l0
        simp only [Nat.beq_refl, bc_true, Option.some.injEq] at h
        subst h
        refine DoesV.same hr pr hrun ?_
        simp only [VR]
        refine ⟨d, c, ?_, by omega, hroom, fun k hk => by cases hk⟩
        by_cases e : c = 0
        · rw [if_pos e]; simp
        · rw [if_neg e]; simp
      · rw [nbeq_false l0, bc_false] at h
        by_cases hlt : l < len
        · rw [nblt_iff.2 hlt, bc_true, Option.some.injEq] at h
          subst h
          refine DoesV.same hr pr hrun ?_
          simp only [VR]
          refine ⟨d, c - l, ?_, by omega, ?_, fun k hk => by cases hk⟩
          · rw [if_neg (by omega)]; simp [Nat.add_assoc]
          · rw [Nat.sub_mul]
            have : l * g.size ≤ c * g.size := Nat.mul_le_mul_right _ (by omega)
            omega
        · have hb : Nat.blt l len = false := by
            cases hb : Nat.blt l len with
            | false => rfl
            | true => exact absurd (nblt_iff.1 hb) hlt
          rw [hb, bc_false, Option.some.injEq] at h
          subst h
          refine DoesV.same hr pr hrun ?_
          simp only [VR]
          have e0 : h' - l = 0 := by omega
          rw [e0]
          by_cases e : c = l
          · exact .inl ⟨E.blk n, E.sh n + off, none, c - l, by rw [if_pos e], Nat.zero_le _, .inl trivial⟩
          · exact .inl ⟨E.blk n, E.sh n + off + l * g.size, none, c - l, by rw [if_neg e], Nat.zero_le _, .inl trivial⟩
  · rename_i elem cs len hund
    simp only [o2_eq, on3_eq, ob_some, chk_some, Bool.and_eq_true, nble_iff, Option.some.injEq] at h
    obtain ⟨g, hg, l, hl, h', hh, _, ⟨h1, h2⟩, rfl⟩ := h
    simp only [VR] at hx
    rcases hx with ⟨b, o, sp, c, rfl, hlc, hcs⟩ | ⟨rfl, rfl, rfl⟩
    rotate_left
    · obtain rfl : h' = 0 := by omega
      obtain rfl : l = 0 := by omega
      refine DoesV.same hr pr ?_ (v' := .slice none 0 0) (by simp [VR])
      simp only [Instr.sliceAt, Sem.run_bind, r_und he, hund, Result.andThen_ok, Instr.slice, Option.map_none]
      simp only [run_bounds hl hh h1 h2 ho, Result.andThen_ok, r_size hg, Sem.run_pure]
      simp
    have hrun : (Instr.sliceAt t (.slice (some ⟨b, o, sp⟩) len c) (lo.map ρ) (hi.map ρ) (Option.map ρ none)).run P w =
        .ok (.slice (some (if c = l then ⟨b, o, sp⟩ else (⟨b, o, sp⟩ : Addr).add (l * g.size))) (h' - l) (c - l)) w := by
      simp only [Instr.sliceAt, Sem.run_bind, r_und he, hund, Result.andThen_ok, Instr.slice, Option.map_none]
      simp only [run_bounds hl hh h1 (Nat.le_trans h2 hlc) ho, Result.andThen_ok, r_size hg, Sem.run_pure]
      by_cases e : c = l
      · simp [e]
      · simp [e]
    refine DoesV.same hr pr hrun ?_
    simp only [VR]
    by_cases e : c = l
    · refine .inl ⟨b, o, sp, c - l, by rw [if_pos e], by omega, .inl ?_⟩
      have : h' - l = 0 := by omega
      simp [this]
    · rcases hcs with rfl | ⟨rfl, arr, hp, hv⟩
      · refine .inl ⟨((⟨b, o, sp⟩ : Addr).add (l * g.size)).block, ((⟨b, o, sp⟩ : Addr).add (l * g.size)).off, ((⟨b, o, sp⟩ : Addr).add (l * g.size)).spot, c - l, by rw [if_neg e], by omega, .inl (by simp)⟩
      · refine .inl ⟨b, o + l * g.size, none, c - l, by rw [if_neg e, add_mk], by omega, ?_⟩
        exact .inr ⟨rfl, arr, hp, by rw [← List.drop_drop]; exact VRP.take _ (VRP.drop _ hv)⟩
  · rename_i m elem n len z hund
    simp only [o2_eq, on3_eq, ob_some, chk_some, Bool.and_eq_true, nbeq_iff] at h
    obtain ⟨g, hg, _, ⟨rfl, rfl⟩, l, hl, h', hh, h⟩ := h
    simp only [VR] at hx
    obtain ⟨d, rfl, hroom⟩ := hx
    simp only [cutMs, o2_eq, on3_eq, ob_some, chk_some, Bool.and_eq_true, nble_iff, Option.some.injEq] at h
    obtain ⟨_, ⟨h1, h2⟩, rfl⟩ := h
    have hrun : (Instr.sliceAt t (.pointer (some ⟨E.blk n, E.sh n, none⟩)) (lo.map ρ) (hi.map ρ) (Option.map ρ none)).run P w =
        .ok (.slice (some (if len = l then ⟨E.blk n, E.sh n, none⟩ else ⟨E.blk n, E.sh n + l * g.size, none⟩)) (h' - l) (len - l)) w := by
      simp only [Instr.sliceAt, Instr.sureAddr, Sem.run_bind, r_und he, hund, Result.andThen_ok, Option.map_none, Sem.run_pure]
      simp only [run_bounds hl hh h1 h2 ho, Result.andThen_ok, r_size hg, Sem.run_pure]
      by_cases e : len = l
      · simp [e]
      · simp [e, add_mk]
    refine DoesV.same hr pr hrun ?_
    simp only [VR]
    refine ⟨d, len - l, ?_, by omega, ?_, fun k hk => by cases hk; rfl⟩
    · by_cases e : len = l
      · rw [if_pos e, nbeq_iff.2 e, bc_true]; simp
      · rw [if_neg e, nbeq_false e, bc_false]; simp
    · by_cases e : len = l
      · rw [nbeq_iff.2 e, bc_true, e]; simp; subst e; have := Nat.zero_le (len * g.size); omega
      · rw [nbeq_false e, bc_false, Nat.sub_mul]
        have : l * g.size ≤ len * g.size := Nat.mul_le_mul_right _ (by omega)
        omega
  · cases h

theorem sliceW_does {t : TypeId} {x y : AV} {v : Value} (h : sliceW P S T t x = some y) (hx : VR E x v) (hr : HR E S.heap.get w) (pr : PR E w) :
    DoesV P (Instr.sliceAt t v none none none) E S w y S := by
  unfold sliceW at h
  split at h
  · rename_i n off
    rw [ob_some] at h
    obtain ⟨e, he, h⟩ := h
    split at h
    · rename_i m elem hund
      simp only [o2_eq, on3_eq, ob_some, chk_some, Bool.and_eq_true, nble_iff, nblt_iff, Option.some.injEq] at h
      obtain ⟨g, hg, cs, hcs, _, ⟨h1, h2, h0⟩, rfl⟩ := h
      simp only [VR] at hx
      obtain ⟨d, rfl⟩ := hx
      obtain ⟨arr, el, fz, _, hb, _, hv⟩ := hr.cells hcs
      have hl := hv.len
      simp at hl
      refine DoesV.same hr pr (v' := .slice (some ⟨E.blk n, E.sh n + off, none⟩) m m) ?_ ?_
      · have hb : (Instr.sliceBounds false m m none none none).run P w = .ok (0, m, m) w := rfl
        simp only [Instr.sliceAt, Instr.sureAddr, Sem.run_bind, r_und he, hund, Result.andThen_ok, Sem.run_pure]
        simp only [hb, Result.andThen_ok, r_size hg, Sem.run_pure]
        rw [if_neg (by omega)]
        simp [add_mk]
      · simp only [VR]
        refine ⟨d, m, rfl, Nat.le_refl _, ?_, fun k hk => by cases hk; rfl⟩
        rw [hb]
        omega
    · cases h
  · exact slice_does (ρ := fun _ => .tuple #[]) (lo := none) (hi := none) (mx := none) h hx (fun x hx => by rcases hx with h | h | h <;> cases h) hr pr

theorem shiftP_rel {x y : AV} {off : Nat} {v : Value} (h : shiftP off x = some y) (hx : VR E x v) : ∃ b o, v = .pointer (some ⟨b, o, none⟩) ∧ VR E y (.pointer (some ⟨b, o + off, none⟩)) := by
  unfold shiftP at h
  split at h
  · cases h
    simp only [VR] at hx ⊢
    obtain ⟨d, rfl⟩ := hx
    exact ⟨_, _, rfl, d, by simp [Nat.add_assoc]⟩
  · cases h
    simp only [VR] at hx ⊢
    obtain ⟨b, o, rfl, arr, hp, hv⟩ := hx
    exact ⟨b, o, rfl, b, o + off, rfl, arr, hp, by rw [← List.drop_drop]; exact VRP.drop _ hv⟩
  · cases h
    simp only [VR] at hx ⊢
    obtain ⟨d, rfl, _⟩ := hx
    exact ⟨_, _, rfl, d, rfl⟩
  · cases h

theorem fieldAddr_does {s : TypeId} {x y : AV} {f : Nat} {v : Value} (h : fieldAddrA P s x f = some y) (hx : VR E x v) (hr : HR E S.heap.get w) (pr : PR E w) :
    DoesV P (Instr.fieldAt s v f) E S w y S := by
  simp only [fieldAddrA, o2_eq, on3_eq, ob_some, chk_some] at h
  obtain ⟨e, he, fs, hfs, fd, hfd, g, hg, _, hz, h⟩ := h
  obtain ⟨arr, hund, rfl⟩ := structOf_some hfs
  obtain ⟨b, o, rfl, hy⟩ := shiftP_rel h hx
  have hfd' : arr[f]? = some fd := by simpa using hfd
  have hz' : g.size ≠ 0 := fun e => by rw [e] at hz; cases hz
  refine DoesV.same hr pr ?_ hy
  simp [Instr.fieldAt, r_und he, hund, hfd', Instr.sureAddr, fieldPlace, r_size hg, hz', add_mk]

theorem run_part {t : TypeId} {e : TE} (he : te P t = some e) {cs : List AV} {arr : Array Value} {off : Nat} {x : AV} (h : partA e cs off = some x) (hr : VRP E cs arr.toList) :
    ∃ v, (∀ w, (part t arr off).run P w = .ok v w) ∧ VR E x v := by
  rcases partA_rel h hr with ⟨ha, hle, hx⟩ | ⟨ha, v, hv, hx⟩
  · refine ⟨_, fun w => ?_, hx⟩
    simp only [part, Sem.run_bind, r_isAgg he, Result.andThen_ok, ha, if_true, r_size he, Sem.run_pure]
    congr 2
    apply Array.toList_inj.1
    simp [List.take_drop]
  · refine ⟨v, fun w => ?_, hx⟩
    have hv' : arr[off]? = some v := by simpa using hv
    simp only [part, Sem.run_bind, r_isAgg he, Result.andThen_ok, ha, Bool.false_eq_true, if_false, hv', Sem.run_pure]

theorem field_does {s : TypeId} {x y : AV} {f : Nat} {v : Value} (h : fieldA P s x f = some y) (hx : VR E x v) (hr : HR E S.heap.get w) (pr : PR E w) :
    DoesV P (Instr.field s v f) E S w y S := by
  unfold fieldA at h
  split at h
  · rename_i cs
    simp only [o2_eq, on3_eq, ob_some] at h
    obtain ⟨e, he, fs, hfs, fd, hfd, g, hg, h⟩ := h
    obtain ⟨arr, hund, rfl⟩ := structOf_some hfs
    simp only [VR] at hx
    obtain ⟨a, rfl, ha, _⟩ := hx
    obtain ⟨u, hu, hy⟩ := run_part hg h ha
    have hfd' : arr[f]? = some fd := by simpa using hfd
    refine DoesV.same hr pr ?_ hy
    simp [Instr.field, r_und he, hund, hfd', asAgg, hu]
  · cases h

theorem indexAddr_does {t : TypeId} {x ix y : AV} {v iv : Value} (h : indexAddrA P t x ix = some y) (hx : VR E x v) (hi : VR E ix iv) (hr : HR E S.heap.get w) (pr : PR E w) :
    DoesV P (Instr.indexAt t v iv) E S w y S := by
  simp only [indexAddrA, o2_eq, on3_eq, ob_some] at h
  obtain ⟨i, hin, e, he, h⟩ := h
  obtain ⟨k, rfl⟩ := asN_rel hin hi
  split at h
  · rename_i len elem hund
    simp only [o2_eq, on3_eq, ob_some, chk_some, nblt_iff] at h
    obtain ⟨g, hg, _, hlt, h⟩ := h
    obtain ⟨b, o, rfl, hy⟩ := shiftP_rel h hx
    refine DoesV.same hr pr ?_ hy
    simp [Instr.indexAt, asIntOf, r_und he, hund, Instr.sureAddr, hlt, r_size hg, add_mk]
  · rename_i elem n off len cap z hund
    simp only [o2_eq, on3_eq, ob_some, chk_some, nblt_iff, Option.some.injEq] at h
    obtain ⟨g, hg, _, hlt, rfl⟩ := h
    simp only [VR] at hx
    obtain ⟨d, c, rfl, _⟩ := hx
    refine DoesV.same hr pr ?_ (v' := .pointer (some ⟨E.blk n, E.sh n + (off + i * g.size), none⟩)) (by simp only [VR]; exact ⟨d, trivial⟩)
    simp [Instr.indexAt, asIntOf, r_und he, hund, hlt, r_size hg, add_mk, Nat.add_assoc]
  · rename_i elem cs len hund
    simp only [o2_eq, on3_eq, ob_some, chk_some, Bool.and_eq_true, nblt_iff, Option.some.injEq] at h
    obtain ⟨g, hg, _, ⟨hlt, hne⟩, rfl⟩ := h
    simp only [VR] at hx
    rcases hx with ⟨b, o, sp, c, rfl, _, hcs⟩ | ⟨_, rfl, _⟩
    rotate_left
    · omega
    rcases hcs with rfl | ⟨rfl, arr, hp, hv⟩
    · simp at hne
    · refine DoesV.same hr pr ?_ (v' := .pointer (some ⟨b, o + i * g.size, none⟩)) (by simp only [VR]; exact ⟨b, _, rfl, arr, hp, by rw [← List.drop_drop]; exact VRP.drop _ hv⟩)
      simp [Instr.indexAt, asIntOf, r_und he, hund, hlt, r_size hg, add_mk]
  · cases h

theorem index_does {t : TypeId} {x ix y : AV} {v iv : Value} (h : indexA P t x ix = some y) (hx : VR E x v) (hi : VR E ix iv) (hr : HR E S.heap.get w) (pr : PR E w) :
    DoesV P (Instr.index t v iv) E S w y S := by
  simp only [indexA, o2_eq, on3_eq, ob_some] at h
  obtain ⟨i, hin, e, he, h⟩ := h
  obtain ⟨k, rfl⟩ := asN_rel hin hi
  split at h
  · rename_i len elem cs hund
    simp only [o2_eq, on3_eq, ob_some, chk_some, nblt_iff] at h
    obtain ⟨g, hg, _, hlt, h⟩ := h
    simp only [VR] at hx
    obtain ⟨a, rfl, ha, _⟩ := hx
    obtain ⟨u, hu, hy⟩ := run_part hg h ha
    refine DoesV.same hr pr ?_ hy
    simp [Instr.index, asIntOf, r_und he, hund, hlt, r_size hg, hu]
  · rename_i s hund
    simp only [o2_eq, on3_eq, ob_some, Option.some.injEq] at h
    obtain ⟨b, hb, rfl⟩ := h
    simp only [VR] at hx
    subst hx
    refine DoesV.same hr pr ?_ (v' := .int .u8 b.toNat) (by simp only [VR])
    simp [Instr.index, asIntOf, r_und he, hund, hb]
  · cases h


/-! numbers, strings, comparisons -/
theorem intBin_rel {op : BinOp} {k : IntKind} {a b : Int} {y : AV} (t : TypeId) (h : intBinA op k a b = some y) (hs : op ≠ .shl ∧ op ≠ .shr) :
    ∃ v, (∀ w, (binOp op t (.int k a) (.int k b)).run P w = .ok v w) ∧ VR E y v := by
  cases op <;> simp only [intBinA, Option.some.injEq, bitsA] at h
  case quo =>
    split at h
    · cases h
    · rename_i hb
      cases h
      exact ⟨_, fun w => by simp [binOp, Op.intDiv, hb]; rfl, by simp only [VR]⟩
  case rem =>
    split at h
    · cases h
    · rename_i hb
      cases h
      exact ⟨_, fun w => by simp [binOp, Op.intDiv, hb]; rfl, by simp only [VR]⟩
  case shl => exact absurd rfl hs.1
  case shr => exact absurd rfl hs.2
  all_goals
    subst h
    exact ⟨_, fun w => by simp only [binOp, ne_eq, not_true_eq_false, if_false, Op.intArith, Op.intBits, Op.intCmp]; rfl, by simp only [VR]⟩

theorem shift_rel {op : BinOp} {k k' : IntKind} {a b : Int} {y : AV} (t : TypeId) (h : shiftA op k a b = some y) :
    ∃ v, (∀ w, (binOp op t (.int k a) (.int k' b)).run P w = .ok v w) ∧ VR E y v := by
  unfold shiftA at h
  split at h
  · cases h
  · rename_i hb
    split at h
    · cases h; exact ⟨_, fun w => by simp [binOp, Op.shift, hb]; rfl, by simp only [VR]⟩
    · cases h; exact ⟨_, fun w => by simp [binOp, Op.shift, hb]; rfl, by simp only [VR]⟩
    · cases h

theorem strBin_rel {op : BinOp} {a b : ByteArray} {y : AV} (t : TypeId) (h : strBinA op a b = some y) :
    ∃ v, (∀ w, (binOp op t (.string a) (.string b)).run P w = .ok v w) ∧ VR E y v := by
  cases op <;> simp only [strBinA, Option.some.injEq, reduceCtorEq] at h
  case add =>
    split at h
    · rename_i hl
      cases h
      have : ¬ (((a.size + b.size : Nat) : Int) > IntKind.i64.max) := by
        unfold big at hl
        have : IntKind.i64.max = 9223372036854775807 := by decide
        omega
      exact ⟨_, fun w => by simp only [binOp, Op.stringOp]; rw [if_neg this]; rfl, by simp only [VR]⟩
    · cases h
  all_goals
    subst h
    exact ⟨_, fun w => by simp only [binOp, Op.stringOp]; rfl, by simp only [VR]⟩

theorem guard_other {t : TypeId} {x y : Operand} {va vb : Value} (op : BinOp) (h1 : ¬ (va = .nilIface ∧ vb = .nilIface)) (h2 : ∀ a, va ≠ .agg a) (w : World) : (eqGuard op t x y va vb).run P w = .ok () w := by
  unfold eqGuard
  rw [Sem.run_ite]
  by_cases hc : (!(op matches .eql | .neq)) = true
  · exact if_pos hc
  · refine (if_neg hc).trans ?_
    cases va <;> first
      | exact absurd rfl (h2 _)
      | rfl
      | (cases vb <;> first | rfl | exact absurd ⟨rfl, rfl⟩ h1)

theorem guard_nil {t : TypeId} {x y : Operand} (op : BinOp) (h : (isConstO x || isConstO y) = true) (w : World) : (eqGuard op t x y .nilIface .nilIface).run P w = .ok () w := by
  unfold eqGuard
  rw [Sem.run_ite]
  by_cases hc : (!(op matches .eql | .neq)) = true
  · exact if_pos hc
  · refine (if_neg hc).trans ?_
    cases x <;> cases y <;> first | rfl | (simp [isConstO] at h)

theorem eq_deep {t : TypeId} {x y : Value} {r : Bool} (h : ∀ d, (Op.equalIn (d + 1) t x y).run P w = .ok r w) : (Op.equal t x y).run P w = .ok r w := by
  unfold Op.equal Op.maxDepth
  exact h 9999

theorem VR.int_inv {a : AV} {k : IntKind} {n : Int} (h : VR E a (.int k n)) : a = .int k n := by
  cases a <;> simp only [VR] at h <;> first | (cases h; rfl) | (exfalso; simp at h)
theorem VR.str_inv {a : AV} {s : ByteArray} (h : VR E a (.string s)) : a = .str s := by
  cases a <;> simp only [VR] at h <;> first | (cases h; rfl) | (exfalso; simp at h)
theorem VR.no_float {a : AV} {k : FloatKind} {n : Nat} : ¬ VR E a (.float k n) := by
  intro h; cases a <;> simp only [VR] at h <;> simp at h
theorem VR.no_complex {a : AV} {k : FloatKind} {n m : Nat} : ¬ VR E a (.complex k n m) := by
  intro h; cases a <;> simp only [VR] at h <;> simp at h

theorem eq_rel {t : TypeId} {e : TE} (he : te P t = some e) {x y : Operand} {a b : AV} {va vb : Value} {r : Bool} (op : BinOp) (h : eqA e.und (isConstO x || isConstO y) a b = some r) (ha : VR E a va) (hb : VR E b vb) :
    (∀ w, (eqGuard op t x y va vb).run P w = .ok () w) ∧ (∀ w, (Op.equal t va vb).run P w = .ok r w) := by
  have hu := fun w => r_und he w
  cases hd : e.und <;> rw [hd] at h hu <;> cases a <;> cases b <;> simp only [eqA, Option.some.injEq, reduceCtorEq] at h
  all_goals simp only [VR] at ha hb
  case bool.bool.bool => subst ha hb h; exact ⟨guard_other op (by simp) (by simp), fun w => eq_deep fun d => by rw [Op.equalIn, Sem.run_bind, hu]; rfl⟩
  case pointer.nilp.nilp => subst ha hb h; exact ⟨guard_other op (by simp) (by simp), fun w => eq_deep fun d => by rw [Op.equalIn, Sem.run_bind, hu]; rfl⟩
  case pointer.nilp.mp => obtain ⟨_, rfl⟩ := hb; subst ha h; exact ⟨guard_other op (by simp) (by simp), fun w => eq_deep fun d => by rw [Op.equalIn, Sem.run_bind, hu]; rfl⟩
  case pointer.nilp.fp => obtain ⟨_, _, rfl, _⟩ := hb; subst ha h; exact ⟨guard_other op (by simp) (by simp), fun w => eq_deep fun d => by rw [Op.equalIn, Sem.run_bind, hu]; rfl⟩
  case pointer.mp.nilp => obtain ⟨_, rfl⟩ := ha; subst hb h; exact ⟨guard_other op (by simp) (by simp), fun w => eq_deep fun d => by rw [Op.equalIn, Sem.run_bind, hu]; rfl⟩
  case pointer.fp.nilp => obtain ⟨_, _, rfl, _⟩ := ha; subst hb h; exact ⟨guard_other op (by simp) (by simp), fun w => eq_deep fun d => by rw [Op.equalIn, Sem.run_bind, hu]; rfl⟩
  case slice.nils.nils => subst ha hb h; exact ⟨guard_other op (by simp) (by simp), fun w => eq_deep fun d => by rw [Op.equalIn, Sem.run_bind, hu]; rfl⟩
  case slice.nils.ms => obtain ⟨_, _, rfl, _⟩ := hb; subst ha h; exact ⟨guard_other op (by simp) (by simp), fun w => eq_deep fun d => by rw [Op.equalIn, Sem.run_bind, hu]; rfl⟩
  case slice.nils.fs cs len =>
    cases len with
    | zero => cases h
    | succ k =>
    rcases hb with ⟨_, _, _, _, rfl, _⟩ | ⟨_, hk, _⟩
    rotate_left
    · cases hk
    cases h; subst ha; exact ⟨guard_other op (by simp) (by simp), fun w => eq_deep fun d => by rw [Op.equalIn, Sem.run_bind, hu]; rfl⟩
  case slice.ms.nils => obtain ⟨_, _, rfl, _⟩ := ha; subst hb h; exact ⟨guard_other op (by simp) (by simp), fun w => eq_deep fun d => by rw [Op.equalIn, Sem.run_bind, hu]; rfl⟩
  case slice.fs.nils cs len =>
    cases len with
    | zero => cases h
    | succ k =>
    rcases ha with ⟨_, _, _, _, rfl, _⟩ | ⟨_, hk, _⟩
    rotate_left
    · cases hk
    cases h; subst hb; exact ⟨guard_other op (by simp) (by simp), fun w => eq_deep fun d => by rw [Op.equalIn, Sem.run_bind, hu]; rfl⟩
  case interface.nili.nili =>
    subst ha hb
    cases hc : (isConstO x || isConstO y)
    · rw [hc] at h; cases h
    · rw [hc] at h; cases h
      exact ⟨guard_nil op hc, fun w => eq_deep fun d => by rw [Op.equalIn, Sem.run_bind, hu]; rfl⟩
  case interface.nili.iface => obtain ⟨_, rfl, _⟩ := hb; subst ha h; exact ⟨guard_other op (by simp) (by simp), fun w => eq_deep fun d => by rw [Op.equalIn, Sem.run_bind, hu]; rfl⟩
  case interface.iface.nili => obtain ⟨_, rfl, _⟩ := ha; subst hb h; exact ⟨guard_other op (by simp) (by simp), fun w => eq_deep fun d => by rw [Op.equalIn, Sem.run_bind, hu]; rfl⟩

theorem guard_int {t : TypeId} {x y : Operand} {op : BinOp} {k : IntKind} {n : Int} {vb : Value} (w : World) : (eqGuard op t x y (.int k n) vb).run P w = .ok () w := guard_other op (by simp) (by simp) w
theorem guard_str {t : TypeId} {x y : Operand} {op : BinOp} {s : ByteArray} {vb : Value} (w : World) : (eqGuard op t x y (.string s) vb).run P w = .ok () w := guard_other op (by simp) (by simp) w

theorem eqA_kind {d : TypeDesc} {c : Bool} {a b : AV} {r : Bool} {va : Value} (h : eqA d c a b = some r) (ha : VR E a va) :
    (∀ k n, va ≠ .int k n) ∧ (∀ k n, va ≠ .float k n) ∧ (∀ k n m, va ≠ .complex k n m) ∧ (∀ s, va ≠ .string s) := by
  refine ⟨fun k n e => ?_, fun k n e => ?_, fun k n m e => ?_, fun s e => ?_⟩ <;> subst e
  · rw [ha.int_inv] at h; cases b <;> simp [eqA] at h
  · exact VR.no_float ha
  · exact VR.no_complex ha
  · rw [ha.str_inv] at h; cases b <;> simp [eqA] at h

theorem part_cell {el : TypeId} {g : TE} (hg : te P el = some g) (ha : isAggD g.und = false) {cs : Array Value} {o : Nat} {v : Value} (h : cs[o]? = some v) (w : World) : (part el cs o).run P w = .ok v w := by
  simp only [part, Sem.run_bind, r_isAgg hg, Result.andThen_ok, ha, Bool.false_eq_true, if_false, h, Sem.run_pure, Sem.run_ite]
theorem equal_int {el : TypeId} {g : TE} {k0 : IntKind} (hg : te P el = some g) (hgd : g.und = .int k0) (d : Nat) (k : IntKind) (a b : Int) (w : World) : (Op.equalIn (d + 1) el (.int k a) (.int k b)).run P w = .ok (a == b) w := by
  have hu := r_und hg w
  rw [hgd] at hu
  rw [Op.equalIn, Sem.run_bind, hu]
  simp
theorem guard_int2 {el : TypeId} {g : TE} {k0 : IntKind} (hg : te P el = some g) (hgd : g.und = .int k0) (d : Nat) (k : IntKind) (a b : Int) (w : World) : (Op.eqGuardIn (d + 1) el (.int k a) (.int k b)).run P w = .ok false w := by
  have hu := r_und hg w
  rw [hgd] at hu
  rw [Op.eqGuardIn, Sem.run_bind, hu]
  simp
theorem equal_arr2 {t el : TypeId} {e g : TE} {k0 : IntKind} (he : te P t = some e) (hd : e.und = .array 2 el) (hg : te P el = some g) (hgd : g.und = .int k0) (hz : g.size = 1) (k k2 : IntKind) (a b c d : Int) (w : World) :
    (Op.equal t (.agg #[.int k a, .int k2 b]) (.agg #[.int k c, .int k2 d])).run P w = .ok (a == c && b == d) w := by
  have hu := r_und he w
  rw [hd] at hu
  have hag : isAggD g.und = false := by rw [hgd]; rfl
  have e1 : ∀ (k : IntKind) (a b : Int), (Op.equalIn 9999 el (.int k a) (.int k b)).run P w = .ok (a == b) w := fun k a b => equal_int hg hgd 9998 k a b w
  have p0 : ∀ (k k2 : IntKind) (a b : Int), (part el #[.int k a, .int k2 b] 0).run P w = .ok (.int k a) w := fun k k2 a b => part_cell hg hag rfl w
  have p1 : ∀ (k k2 : IntKind) (a b : Int), (part el #[.int k a, .int k2 b] 1).run P w = .ok (.int k2 b) w := fun k k2 a b => part_cell hg hag rfl w
  unfold Op.equal Op.maxDepth
  show (Op.equalIn (9999 + 1) t _ _).run P w = _
  rw [Op.equalIn, Sem.run_bind, hu]
  simp only [Result.andThen_ok, Sem.run_bind, r_size hg, hz]
  simp only [Std.Legacy.Range.forIn_eq_forIn_range', Std.Legacy.Range.size, List.range', List.forIn_cons, List.forIn_nil, Sem.run_bind, Sem.run_ite, Sem.run_pure, Result.andThen_ok, Nat.zero_mul, Nat.zero_add, Nat.one_mul, p0, e1]
  cases h1 : (a == c) <;> simp [Sem.run_bind, Sem.run_ite, Sem.run_pure, p1, e1]
  cases h2 : (b == d) <;> simp <;> simpa using h2
theorem guardIn_arr2 {t el : TypeId} {e g : TE} {k0 : IntKind} (he : te P t = some e) (hd : e.und = .array 2 el) (hg : te P el = some g) (hgd : g.und = .int k0) (hz : g.size = 1) (k k2 : IntKind) (a b c d : Int) (w : World) (n : Nat) :
    (Op.eqGuardIn (n + 1 + 1) t (.agg #[.int k a, .int k2 b]) (.agg #[.int k c, .int k2 d])).run P w = .ok false w := by
  have hu := r_und he w
  rw [hd] at hu
  have hag : isAggD g.und = false := by rw [hgd]; rfl
  have e1 : ∀ (k : IntKind) (a b : Int), (Op.eqGuardIn (n + 1) el (.int k a) (.int k b)).run P w = .ok false w := fun k a b => guard_int2 hg hgd n k a b w
  have p0 : ∀ (k k2 : IntKind) (a b : Int), (part el #[.int k a, .int k2 b] 0).run P w = .ok (.int k a) w := fun k k2 a b => part_cell hg hag rfl w
  have p1 : ∀ (k k2 : IntKind) (a b : Int), (part el #[.int k a, .int k2 b] 1).run P w = .ok (.int k2 b) w := fun k k2 a b => part_cell hg hag rfl w
  rw [Op.eqGuardIn, Sem.run_bind, hu]
  simp only [Result.andThen_ok, Sem.run_bind, r_size hg, hz]
  simp only [Std.Legacy.Range.forIn_eq_forIn_range', Std.Legacy.Range.size, List.range', List.forIn_cons, List.forIn_nil, Sem.run_bind, Sem.run_ite, Sem.run_pure, Result.andThen_ok, Nat.zero_mul, Nat.zero_add, Nat.one_mul, p0, e1]
  simp [Sem.run_bind, Sem.run_ite, Sem.run_pure, p1, e1]
theorem guard_deep {t : TypeId} {x y : Value} (h : ∀ d, (Op.eqGuardIn (d + 1 + 1) t x y).run P w = .ok false w) : (Op.eqGuardIn Op.maxDepth t x y).run P w = .ok false w := by
  unfold Op.maxDepth
  exact h 9998
theorem guard_agg {t : TypeId} {a b : Array Value} (h : (Op.eqGuardIn Op.maxDepth t (.agg a) (.agg b)).run P w = .ok false w) (op : BinOp) (x y : Operand) : (eqGuard op t x y (.agg a) (.agg b)).run P w = .ok () w := by
  unfold eqGuard
  rw [Sem.run_ite]
  by_cases hc : (!(op matches .eql | .neq)) = true
  · exact if_pos hc
  · refine (if_neg hc).trans ?_
    dsimp only
    generalize Op.eqGuardIn Op.maxDepth t (.agg a) (.agg b) = G at h ⊢
    have hp : (program).run P w = .ok P w := rfl
    generalize (unsupported (α := Unit) _) = U
    rw [Sem.run_bind, hp, Result.andThen_ok, Sem.run_bind, hp, Result.andThen_ok, Sem.run_ite]
    cases hq : P.eqGuardType P.depth t
    · exact if_pos rfl
    · refine (if_neg (show ¬ ((!true) = true) by decide)).trans ?_
      rw [Sem.run_bind, h, Result.andThen_ok, Sem.run_ite]
      exact if_neg (show ¬ (false = true) by decide)

theorem ints2_some {E : Gh} {xs : List AV} {k j : IntKind} {a b : Int} (h : ints2 xs = some (k, a, j, b)) {vs : Array Value} (hv : VRP E xs vs.toList) (hl : xs.length = vs.size) : vs = #[.int k a, .int j b] := by
  unfold ints2 at h
  split at h
  · cases h
    obtain ⟨l⟩ := vs
    match l, hv, hl with
    | [u, v], hv, _ =>
      simp only [VRP, VR, and_true] at hv
      obtain ⟨rfl, rfl⟩ := hv
      rfl
  · cases h
theorem arr2_rel {t : TypeId} {xs ys : List AV} {r : Bool} {va vb : Value} (h : arr2A P t xs ys = some r) (ha : VR E (.agg xs) va) (hb : VR E (.agg ys) vb) (op : BinOp) (x y : Operand) :
    (∀ w, (eqGuard op t x y va vb).run P w = .ok () w) ∧ (∀ w, (Op.equal t va vb).run P w = .ok r w) ∧ ∃ l, va = .agg l := by
  simp only [VR] at ha hb
  obtain ⟨A, rfl, ha, hla⟩ := ha
  obtain ⟨B, rfl, hb, hlb⟩ := hb
  unfold arr2A at h
  rw [ob_some] at h
  obtain ⟨e, he, h⟩ := h
  split at h
  · rename_i n el hd
    simp only [o2_eq, on3_eq, ob_some, chk_some, nbeq_iff] at h
    obtain ⟨_, hn, g, hg, h⟩ := h
    subst hn
    split at h
    · rename_i k0 hgd
      simp only [o2_eq, on3_eq, ob_some, chk_some, nbeq_iff, Bool.and_eq_true, decide_eq_true_eq, Option.some.injEq] at h
      obtain ⟨_, hz, ⟨k, a, j, b⟩, hp, ⟨k', c, j', d⟩, hq, _, ⟨e1, e2⟩, rfl⟩ := h
      dsimp only at e1 e2
      subst e1 e2
      have := ints2_some hp ha hla; subst this
      have := ints2_some hq hb hlb; subst this
      exact ⟨fun w => guard_agg (guard_deep fun n => guardIn_arr2 he hd hg hgd hz _ _ _ _ _ _ w n) op x y, fun w => equal_arr2 he hd hg hgd hz _ _ _ _ _ _ w, _, rfl⟩
    · cases h
  · cases h

theorem fields_rel {d D : Nat} {w : World} (ih : ∀ {t : TypeId} {x y : AV} {va vb : Value} {r : Bool}, eqS P d t x y = some r → VR E x va → VR E y vb →
      (Op.equalIn D t va vb).run P w = .ok r w ∧ (Op.eqGuardIn D t va vb).run P w = .ok false w)
    {xs ys : List AV} {va vb : Array Value} (ha : VRP E xs va.toList) (hb : VRP E ys vb.toList) : ∀ {l : List Field} {r : Bool}, eqFs P (eqS P d) xs ys l = some r →
    (forIn (m := Sem) l ((none : Option Bool), ()) fun f __s =>
              if f.name ≠ "_" then do
                let p ← part f.type va f.offset
                let q ← part f.type vb f.offset
                let b ← Op.equalIn D f.type p q
                if (!b) = true then pure (ForInStep.done (some false, ()))
                  else pure (ForInStep.yield (none, ()))
              else pure (ForInStep.yield (none, ()))).run P w = .ok (bif r then none else some false, ()) w ∧
    (forIn (m := Sem) l ((none : Option Bool), ()) fun f __s =>
              if f.name ≠ "_" then do
                let p ← part f.type va f.offset
                let q ← part f.type vb f.offset
                let b ← Op.eqGuardIn D f.type p q
                if b = true then pure (ForInStep.done (some true, ()))
                  else pure (ForInStep.yield (none, ()))
              else pure (ForInStep.yield (none, ()))).run P w = .ok (none, ()) w
  | [], r, h => by
    cases h
    exact ⟨rfl, rfl⟩
  | f :: l, r, h => by
    unfold eqFs at h
    by_cases hn : f.name = "_"
    · rw [decide_eq_true hn] at h; cases h
    · rw [decide_eq_false hn, cond_false] at h
      simp only [o2_eq, on3_eq, ob_some, Option.some.injEq] at h
      obtain ⟨e, he, a, h1, b, h2, r1, h3, r2, h4, rfl⟩ := h
      obtain ⟨u, pu, hu⟩ := run_part he h1 ha
      obtain ⟨v, pv, hv⟩ := run_part he h2 hb
      obtain ⟨k1, k2⟩ := ih h3 hu hv
      obtain ⟨i1, i2⟩ := fields_rel @ih ha hb h4
      simp only [List.forIn_cons, Sem.run_bind, if_pos hn, pu w, pv w, k1, k2, Result.andThen_ok, Bool.false_eq_true, if_false, Sem.run_pure]
      refine ⟨?_, i2⟩
      cases r1
      · simp [Sem.run_bind, Sem.run_pure]
      · simp only [Bool.not_true, Bool.false_eq_true, if_false, Sem.run_pure, Result.andThen_ok, Bool.true_and]
        exact i1
theorem eqS_rel : ∀ (d : Nat) {t : TypeId} {x y : AV} {va vb : Value} {r : Bool}, eqS P d t x y = some r → VR E x va → VR E y vb → ∀ (k : Nat) (w : World),
    (Op.equalIn (k + d) t va vb).run P w = .ok r w ∧ (Op.eqGuardIn (k + d) t va vb).run P w = .ok false w
  | 0, t, x, y, va, vb, r, h, _, _, k, w => by simp [eqS] at h
  | d + 1, t, x, y, va, vb, r, h, ha, hb, k, w => by
    have ih := fun {t : TypeId} {x y : AV} {va vb : Value} {r : Bool} (h : eqS P d t x y = some r) (ha : VR E x va) (hb : VR E y vb) => eqS_rel d h ha hb k w
    simp only [eqS, o2_eq, on3_eq, ob_some] at h
    obtain ⟨e, he, h⟩ := h
    have hu := r_und he w
    show (Op.equalIn (k + d + 1) t va vb).run P w = .ok r w ∧ (Op.eqGuardIn (k + d + 1) t va vb).run P w = .ok false w
    rw [Op.equalIn, Op.eqGuardIn, Sem.run_bind, Sem.run_bind, hu]
    generalize k + d = D at ih
    split at h
    · rename_i hd
      simp only [VR] at ha hb
      cases h; subst ha hb
      rw [hd]
      exact ⟨rfl, rfl⟩
    · rename_i hd
      simp only [chk_some, o2_eq, on3_eq, ob_some, decide_eq_true_eq, Option.some.injEq] at h
      obtain ⟨_, hk, rfl⟩ := h
      simp only [VR] at ha hb
      subst ha hb hk
      rw [hd]
      refine ⟨?_, rfl⟩
      simp
    · rename_i fs xs ys hd
      simp only [chk_some, o2_eq, on3_eq, ob_some, Bool.not_eq_true'] at h
      obtain ⟨_, hs, h⟩ := h
      simp only [VR] at ha hb
      obtain ⟨A, rfl, ha, hla⟩ := ha
      obtain ⟨B, rfl, hb, hlb⟩ := hb
      have pg : (Sem.program Sem.pure).run P w = .ok P w := by rw [Sem.run]; simp [Sem.run]
      obtain ⟨f1, f2⟩ := fields_rel (D := D) (w := w) @ih ha hb h
      rw [hd]
      simp only [Result.andThen_ok, program, Sem.run_bind, pg, hs, Bool.false_eq_true, if_false]
      rw [← Array.forIn_toList, ← Array.forIn_toList]
      refine ⟨?_, ?_⟩
      · refine (congrArg (fun z => Result.andThen z _) f1).trans ?_
        cases r <;> rfl
      · refine (congrArg (fun z => Result.andThen z _) f2).trans ?_
        rfl
    · cases h

theorem agg_rel {t : TypeId} {xs ys : List AV} {r : Bool} {va vb : Value} (h : aggA P t xs ys = some r) (ha : VR E (.agg xs) va) (hb : VR E (.agg ys) vb) (op : BinOp) (x y : Operand) :
    (∀ w, (eqGuard op t x y va vb).run P w = .ok () w) ∧ (∀ w, (Op.equal t va vb).run P w = .ok r w) ∧ ∃ l, va = .agg l := by
  unfold aggA at h
  split at h
  · rename_i r' h'
    cases h
    exact arr2_rel h' ha hb op x y
  · have k := fun w => eqS_rel 10 h ha hb 9990 w
    simp only [VR] at ha hb
    obtain ⟨A, rfl, ha, hla⟩ := ha
    obtain ⟨B, rfl, hb, hlb⟩ := hb
    have e : (9990 + 10 : Nat) = Op.maxDepth := rfl
    rw [e] at k
    refine ⟨fun w => guard_agg (k w).2 op x y, fun w => ?_, _, rfl⟩
    unfold Op.equal
    exact (k w).1

theorem samePA_rel {t : TypeId} {n o n' o' : Nat} {r : Bool} {va vb : Value} (h : samePA P t n o n' o' = some r) (ha : VR E (.mp n o) va) (hb : VR E (.mp n' o') vb) (op : BinOp) (x y : Operand) :
    (∀ w, (eqGuard op t x y va vb).run P w = .ok () w) ∧ (∀ w, (Op.equal t va vb).run P w = .ok r w) ∧ ∃ a, va = .pointer a := by
  unfold samePA at h
  rw [ob_some] at h
  obtain ⟨e, he, h⟩ := h
  split at h
  · rename_i el hd
    simp only [o2_eq, on3_eq, ob_some, chk_some, Bool.and_eq_true, nbeq_iff, Option.some.injEq] at h
    obtain ⟨g, hg, _, ⟨rfl, rfl⟩, rfl⟩ := h
    simp only [VR] at ha hb
    obtain ⟨_, rfl⟩ := ha
    obtain ⟨_, rfl⟩ := hb
    refine ⟨fun w => guard_other op (by simp) (by simp) w, fun w => eq_deep fun d => ?_, _, rfl⟩
    have hu := r_und he w
    rw [Op.equalIn, Sem.run_bind, hu, hd]
    simp [r_size hg, run_sameAddr_same]
  · cases h

theorem bin_does {op : BinOp} {t : TypeId} {x y : Operand} {a b z : AV} {va vb : Value} (h : binA P op t x y a b = some z) (ha : VR E a va) (hb : VR E b vb) (hr : HR E S.heap.get w) (pr : PR E w) :
    DoesV P (do eqGuard op t x y va vb; binOp op t va vb) E S w z S := by
  unfold binA at h
  split at h
  · split at h
    · simp only [o2_eq, on3_eq, ob_some, Option.some.injEq] at h
      obtain ⟨r, hq, rfl⟩ := h
      obtain ⟨h1, h2, l, rfl⟩ := agg_rel hq ha hb .eql x y
      refine DoesV.same hr pr ?_ (v' := .bool r) (by simp only [VR])
      have : binOp .eql t (.agg l) vb = (do pure (.bool (← Op.equal t (.agg l) vb))) := by
        unfold binOp; rfl
      simp [h1, this, h2]
    · simp only [o2_eq, on3_eq, ob_some, Option.some.injEq] at h
      obtain ⟨r, hq, rfl⟩ := h
      obtain ⟨h1, h2, l, rfl⟩ := agg_rel hq ha hb .neq x y
      refine DoesV.same hr pr ?_ (v' := .bool !r) (by simp only [VR])
      have : binOp .neq t (.agg l) vb = (do pure (.bool (!(← Op.equal t (.agg l) vb)))) := by
        unfold binOp; rfl
      simp [h1, this, h2]
    · cases h
  · rename_i k m k' n
    simp only [VR] at ha hb
    subst ha hb
    have key : ∃ v, (∀ w, (binOp op t (.int k m) (.int k' n)).run P w = .ok v w) ∧ VR E z v := by
      split at h
      · exact shift_rel t h
      · exact shift_rel t h
      · rename_i h1 h2
        split at h
        · rename_i hk
          subst hk
          exact intBin_rel t h ⟨h1, h2⟩
        · cases h
    obtain ⟨v, hv, hz⟩ := key
    exact DoesV.same hr pr (by simp [guard_int, hv]) hz
  · simp only [VR] at ha hb
    subst ha hb
    obtain ⟨v, hv, hz⟩ := strBin_rel (P := P) (E := E) t h
    exact DoesV.same hr pr (by simp [guard_str, hv]) hz
  · split at h
    · simp only [o2_eq, on3_eq, ob_some, Option.some.injEq] at h
      obtain ⟨r, hq, rfl⟩ := h
      obtain ⟨h1, h2, l, rfl⟩ := samePA_rel hq ha hb .eql x y
      refine DoesV.same hr pr ?_ (v' := .bool r) (by simp only [VR])
      have : binOp .eql t (.pointer l) vb = (do pure (.bool (← Op.equal t (.pointer l) vb))) := by
        unfold binOp; rfl
      simp [h1, this, h2]
    · simp only [o2_eq, on3_eq, ob_some, Option.some.injEq] at h
      obtain ⟨r, hq, rfl⟩ := h
      obtain ⟨h1, h2, l, rfl⟩ := samePA_rel hq ha hb .neq x y
      refine DoesV.same hr pr ?_ (v' := .bool !r) (by simp only [VR])
      have : binOp .neq t (.pointer l) vb = (do pure (.bool (!(← Op.equal t (.pointer l) vb)))) := by
        unfold binOp; rfl
      simp [h1, this, h2]
    · cases h
  · split at h
    · simp only [o2_eq, on3_eq, ob_some, Option.some.injEq] at h
      obtain ⟨e, he, r, hq, rfl⟩ := h
      obtain ⟨h1, h2⟩ := eq_rel he .eql hq ha hb
      obtain ⟨k1, k2, k3, k4⟩ := eqA_kind hq ha
      refine DoesV.same hr pr ?_ (v' := .bool r) (by simp only [VR])
      have : binOp .eql t va vb = (do pure (.bool (← Op.equal t va vb))) := by
        unfold binOp
        cases va <;> first | rfl | exact absurd rfl (k1 _ _) | exact absurd rfl (k2 _ _) | exact absurd rfl (k3 _ _ _) | exact absurd rfl (k4 _)
      simp [h1, this, h2]
    · simp only [o2_eq, on3_eq, ob_some, Option.some.injEq] at h
      obtain ⟨e, he, r, hq, rfl⟩ := h
      obtain ⟨h1, h2⟩ := eq_rel he .neq hq ha hb
      obtain ⟨k1, k2, k3, k4⟩ := eqA_kind hq ha
      refine DoesV.same hr pr ?_ (v' := .bool !r) (by simp only [VR])
      have : binOp .neq t va vb = (do pure (.bool (!(← Op.equal t va vb)))) := by
        unfold binOp
        cases va <;> first | rfl | exact absurd rfl (k1 _ _) | exact absurd rfl (k2 _ _) | exact absurd rfl (k3 _ _ _) | exact absurd rfl (k4 _)
      simp [h1, this, h2]
    · cases h

theorem un_does {op : UnOp} {a z : AV} {va : Value} (h : unA op a = some z) (ha : VR E a va) (hr : HR E S.heap.get w) (pr : PR E w) : DoesV P (Op.unary op va) E S w z S := by
  unfold unA at h
  split at h
  all_goals first
    | (cases h; simp only [VR] at ha; subst ha; exact DoesV.same hr pr (by simp only [Op.unary, Op.intArith, Op.intBits]; rfl) (by simp only [VR, bitsA]))
    | cases h

theorem MR.len : ∀ {es : List ME} {fs : List MapEntry}, MR E es fs → es.length = fs.length
  | [], [], _ => rfl
  | [], _ :: _, h => by simp only [MR] at h
  | _ :: _, [], h => by simp only [MR] at h
  | _ :: es, _ :: fs, h => by simp only [MR] at h; simp [MR.len h.2.2.2]

theorem HR.entries {n : Nat} {es : List ME} {c : Nat} (hr : HR E S.heap.get w) (h : entriesOf S n = some (es, c)) :
    ∃ arr, w.heap[E.blk n]? = some (.map arr c) ∧ MR E es arr.toList := by
  obtain ⟨_, o, ho, hb⟩ := hr.blk n _ (entriesOf_some h)
  simp only [BR] at hb
  obtain ⟨arr, rfl, hm⟩ := hb
  exact ⟨arr, ho, hm⟩

theorem run_getMap {r : Nat} {arr : Array MapEntry} {c : Nat} (h : w.heap[r]? = some (.map arr c)) : (getObj r).run P w = .ok (.map arr c) w := by
  simp [getObj, Sem.run, h]

theorem run_setMap {r : Nat} {arr : Array MapEntry} {c : Nat} (h : w.heap[r]? = some (.map arr c)) (o : Obj) : (setObj r o).run P w = .ok () { w with heap := w.heap.setIfInBounds r o } := by
  simp [setObj, Sem.run, h]

theorem len_does {t : TypeId} {ts : Array TypeId} {x z : AV} {v : Value} (ty : TypeId) (h0 : ts[0]? = some t) (h : lenA P S t x = some z) (hx : VR E x v) (hr : HR E S.heap.get w) (_pr : PR E w) :
    DoesR P (Builtin.len_ ts ty #[v]) E w z := by
  simp only [lenA, o2_eq, on3_eq, ob_some] at h
  obtain ⟨e, he, h⟩ := h
  have hu := r_und he w
  split at h
  all_goals first | (cases h; done) | skip
  case h_1 s hund => cases h; simp only [VR] at hx; subst hx; exact DoesR.of (v' := .int .i64 s.size) (by simp [Builtin.len_, h0, hu, hund, goInt]) (by simp only [VR])
  case h_2 n el hund => cases h; exact DoesR.of (v' := .int .i64 n) (by simp [Builtin.len_, h0, hu, hund, goInt]) (by simp only [VR])
  case h_3 el hund => cases h; simp only [VR] at hx; subst hx; exact DoesR.of (v' := .int .i64 0) (by simp [Builtin.len_, h0, hu, hund, goInt]) (by simp only [VR])
  case h_4 el n off len c zz hund => cases h; simp only [VR] at hx; obtain ⟨_, c, rfl, _⟩ := hx; exact DoesR.of (v' := .int .i64 len) (by simp [Builtin.len_, h0, hu, hund, goInt]) (by simp only [VR])
  case h_5 el cs len hund =>
    cases h; simp only [VR] at hx
    rcases hx with ⟨_, _, _, _, rfl, _⟩ | ⟨_, rfl, rfl⟩
    rotate_left
    · exact DoesR.of (v' := .int .i64 0) (by simp [Builtin.len_, h0, hu, hund, goInt]) (by simp only [VR]; rfl)
    exact DoesR.of (v' := .int .i64 len) (by simp [Builtin.len_, h0, hu, hund, goInt]) (by simp only [VR])
  case h_6 k el hund => cases h; simp only [VR] at hx; subst hx; exact DoesR.of (v' := .int .i64 0) (by simp [Builtin.len_, h0, hu, hund, goInt]) (by simp only [VR])
  case h_7 k el n hund =>
    simp only [o2_eq, on3_eq, ob_some, Option.some.injEq] at h
    obtain ⟨⟨es, c⟩, hes, rfl⟩ := h
    simp only [VR] at hx
    obtain ⟨_, rfl⟩ := hx
    obtain ⟨arr, ho, hm⟩ := hr.entries hes
    exact DoesR.of (v' := .int .i64 es.length) (by simp [Builtin.len_, h0, hu, hund, goInt, run_getMap ho, hm.len]) (by simp only [VR])

end
end Go.Eng
namespace Go.Eng
set_option linter.unusedSectionVars false
variable [Gl] [Mx]
section
variable {P : Program} {E : Gh} {S S' : St} {w : World} {T : Tm} {ρ : Operand → Value}

theorem bytes_eq (a b : ByteArray) : (a == b) = true ↔ a = b := by
  obtain ⟨x⟩ := a
  obtain ⟨y⟩ := b
  constructor
  · intro h
    have e : x = y := by simpa using (show (x == y) = true from h)
    rw [e]
  · intro h
    cases h
    show (x == x) = true
    simp

/-- keys that the machine compares at once -/
def FlatK : TypeDesc → Prop
  | .struct _ => False
  | _ => True

theorem sameK_rel {d : TypeDesc} (hd : FlatK d) {k k' : AV} {v v' : Value} {b : Bool} (h : sameK d k k' = some b) (hk : VR E k v) (hk' : VR E k' v') :
    Instr.sameNow d v v' = some b ∧ (b = true → v = v' ∧ ∀ n, Instr.sameBits (n + 1) v v' = true) := by
  unfold sameK at h
  split at h
  · rename_i j a j' b'
    simp only [VR] at hk hk'
    subst hk hk'
    split at h
    · rename_i hj
      subst hj
      cases h
      refine ⟨by simp [Instr.sameNow], fun hb => ?_⟩
      have : a = b' := by simpa using hb
      subst this
      exact ⟨rfl, fun n => by simp [Instr.sameBits]⟩
    · cases h
  · rename_i a b'
    simp only [VR] at hk hk'
    subst hk hk'
    cases h
    refine ⟨by simp [Instr.sameNow], fun hb => ?_⟩
    have : a = b' := (bytes_eq _ _).1 hb
    subst this
    exact ⟨rfl, fun n => (bytes_eq _ _).2 rfl⟩
  · exact absurd hd (by simp [FlatK])
  · cases h

theorem two_rel {j l : IntKind} {a b : Int} {v : Value} (h : VR E (.agg [.int j a, .int l b]) v) : v = .agg #[.int j a, .int l b] := by
  simp only [VR] at h
  obtain ⟨arr, rfl, h1, h2⟩ := h
  obtain ⟨l'⟩ := arr
  match l', h1, h2 with
  | [x, y], h1, _ =>
    obtain ⟨hx, hy⟩ := VRP.cons_iff.1 h1
    have hy := (VRP.cons_iff.1 hy).1
    simp only [VR] at hx hy
    rw [hx, hy]
  | [], _, h2 => simp at h2
  | [_], _, h2 => simp at h2
  | _ :: _ :: _ :: _, _, h2 => simp at h2

theorem intF_some {i : Nat} {f : Field} (h : intF P i f = true) : f.offset = i ∧ f.name ≠ "_" ∧ ∃ (e : TE) (k : IntKind), te P f.type = some e ∧ e.und = .int k := by
  unfold intF at h
  simp only [Bool.and_eq_true, nbeq_iff, Bool.not_eq_true', decide_eq_false_iff_not] at h
  obtain ⟨⟨h1, h2⟩, h3⟩ := h
  refine ⟨h1, h2, ?_⟩
  split at h3
  · rename_i e he
    split at h3
    · rename_i k hk; exact ⟨e, k, he, hk⟩
    · cases h3
  · cases h3

theorem twoI_some {t : TypeId} {fs : Array Field} (h : twoI P t fs.toList = true) : ∃ f g, fs = #[f, g] ∧ intF P 0 f = true ∧ intF P 1 g = true ∧ P.stoodInHeld t = false := by
  unfold twoI at h
  simp only [Bool.and_eq_true, Bool.not_eq_true'] at h
  obtain ⟨h1, h2⟩ := h
  split at h1
  · rename_i f g hfs
    simp only [Bool.and_eq_true] at h1
    exact ⟨f, g, Array.toList_inj.1 hfs, h1.1, h1.2, h2⟩
  · cases h1

theorem int_eq {n : Nat} {u : TypeId} {e : TE} {k : IntKind} (he : te P u = some e) (hk : e.und = .int k) (j : IntKind) (a b : Int) : (Op.equalIn (n + 1) u (.int j a) (.int j b)).run P w = .ok (a == b) w := by
  rw [Op.equalIn, Sem.run_bind, r_und he, hk]
  simp

theorem part_int {u : TypeId} {e : TE} {k : IntKind} (he : te P u = some e) (hk : e.und = .int k) {arr : Array Value} {i : Nat} {v : Value} (h : arr[i]? = some v) : (part u arr i).run P w = .ok v w := by
  simp [part, r_isAgg he, hk, isAggD, h]

theorem two_eq {t : TypeId} {e : TE} {fs : Array Field} (he : te P t = some e) (hd : e.und = .struct fs) (h2 : twoI P t fs.toList = true) (j l : IntKind) (a b a' b' : Int) :
    (Op.equal t (.agg #[.int j a, .int l b]) (.agg #[.int j a', .int l b'])).run P w = .ok (a == a' && b == b') w := by
  obtain ⟨f, g, rfl, hf, hg, hs⟩ := twoI_some h2
  obtain ⟨f1, f2, ef, kf, f3, f4⟩ := intF_some hf
  obtain ⟨g1, g2, eg, kg, g3, g4⟩ := intF_some hg
  unfold Op.equal Op.maxDepth
  have pg : (Sem.program Sem.pure).run P w = .ok P w := by rw [Sem.run]; simp [Sem.run]
  rw [Op.equalIn, Sem.run_bind, r_und he, hd]
  have p1 := fun (x y : Value) => part_int (w := w) f3 f4 (arr := #[x, y]) (i := 0) (v := x) rfl
  have p2 := fun (x y : Value) => part_int (w := w) g3 g4 (arr := #[x, y]) (i := 1) (v := y) rfl
  have q1 := int_eq (P := P) (w := w) (n := 9998) f3 f4 j a a'
  have q2 := int_eq (P := P) (w := w) (n := 9998) g3 g4 l b b'
  simp only [Result.andThen_ok]
  by_cases ha : a = a'
  · subst ha
    have hb : (b == b') = true ∨ (b == b') = false := by cases (b == b') <;> simp
    rcases hb with hb | hb <;> simp [hs, f1, f2, g1, g2, p1, p2, q1, q2, hb, program, pg]
  · have ha : (a == a') = false := by simpa using ha
    simp [hs, f1, f2, g1, g2, p1, p2, q1, q2, ha, program, pg]

theorem sameS_rel {fs : Array Field} {k k' : AV} {v v' : Value} {b : Bool} (h : sameK (.struct fs) k k' = some b) (hk : VR E k v) (hk' : VR E k' v') {t : TypeId} {e : TE} (he : te P t = some e) (hd : e.und = .struct fs) (h2 : twoI P t fs.toList = true) :
    (Op.equal t v v').run P w = .ok b w ∧ (b = true → v = v' ∧ ∀ n, Instr.sameBits (n + 1) v v' = true) := by
  unfold sameK at h
  split at h
  · contradiction
  · contradiction
  · split at h
    · rename_i hj
      obtain ⟨rfl, rfl⟩ := hj
      cases h
      rw [two_rel hk, two_rel hk']
      refine ⟨two_eq he hd h2 _ _ _ _ _ _, fun hb => ?_⟩
      simp only [Bool.and_eq_true, beq_iff_eq] at hb
      obtain ⟨rfl, rfl⟩ := hb
      exact ⟨rfl, fun n => by simp [Instr.sameBits]⟩
    · cases h
  · cases h

/-- where the machine finds a key -/
def Found (E : Gh) (v : Value) (es : List ME) (fs : List MapEntry) (i : Nat) (r : Option (Nat × AV)) (q : Option (Nat × Value)) : Prop :=
  (r = none ∧ q = none) ∨ (∃ j x u e, r = some (i + j, x) ∧ q = some (i + j, u) ∧ VR E x u ∧ fs[j]? = some e ∧ e.key = v ∧ (∀ n, Instr.sameBits (n + 1) e.key v = true) ∧ ∃ m, es[j]? = some m ∧ m.born = e.born)

theorem find_flat {d : TypeDesc} (hd : FlatK d) {k : AV} {v : Value} (hk : VR E k v) : ∀ {es : List ME} {fs : List MapEntry} {i : Nat} {r : Option (Nat × AV)}, findE d k es i = some r → MR E es fs →
    ∃ q, Instr.findNow d v fs i = some q ∧ Found E v es fs i r q
  | [], [], i, r, h, _ => by
    simp only [findE, Option.some.injEq] at h
    exact ⟨none, rfl, .inl ⟨h.symm, rfl⟩⟩
  | [], _ :: _, _, _, _, hm => by simp only [MR] at hm
  | _ :: _, [], _, _, _, hm => by simp only [MR] at hm
  | e :: es, f :: fs, i, r, h, hm => by
    simp only [MR] at hm
    obtain ⟨h1, h2, h3, h4⟩ := hm
    simp only [findE, o2_eq, on3_eq, ob_some] at h
    obtain ⟨b, hb, h⟩ := h
    obtain ⟨s1, s2⟩ := sameK_rel hd hb hk h1
    cases b
    · simp only [cond_false] at h
      obtain ⟨q, hf, hq⟩ := find_flat hd hk h h4
      refine ⟨q, by simp only [Instr.findNow, s1, hf], ?_⟩
      rcases hq with hq | ⟨j, x, u, e', rfl, rfl, hx, he', hk', hs, m, hm1, hm2⟩
      · exact .inl hq
      · exact .inr ⟨j + 1, x, u, e', by rw [show i + (j + 1) = i + 1 + j from by omega], by rw [show i + (j + 1) = i + 1 + j from by omega], hx, by simpa using he', hk', hs, m, by simpa using hm1, hm2⟩
    · simp only [cond_true, Option.some.injEq] at h
      subst h
      obtain ⟨e1, e2⟩ := s2 rfl
      refine ⟨some (i, f.val), by simp only [Instr.findNow, s1], .inr ⟨0, e.val, f.val, f, rfl, rfl, h2, rfl, e1.symm, fun n => ?_, e, rfl, h3⟩⟩
      have := e2 n
      rw [e1] at this
      rw [e1]; exact this

theorem find_ask {fs0 : Array Field} {k : AV} {v : Value} (hk : VR E k v) {t : TypeId} {e0 : TE} (he : te P t = some e0) (hd : e0.und = .struct fs0) (h2 : twoI P t fs0.toList = true) : ∀ {es : List ME} {fs : List MapEntry} {i : Nat} {r : Option (Nat × AV)}, findE (.struct fs0) k es i = some r → MR E es fs →
    ∃ q, (Instr.findAsking t v fs i).run P w = .ok q w ∧ Found E v es fs i r q
  | [], [], i, r, h, _ => by
    simp only [findE, Option.some.injEq] at h
    exact ⟨none, rfl, .inl ⟨h.symm, rfl⟩⟩
  | [], _ :: _, _, _, _, hm => by simp only [MR] at hm
  | _ :: _, [], _, _, _, hm => by simp only [MR] at hm
  | e :: es, f :: fs, i, r, h, hm => by
    simp only [MR] at hm
    obtain ⟨h1, h2', h3, h4⟩ := hm
    simp only [findE, o2_eq, on3_eq, ob_some] at h
    obtain ⟨b, hb, h⟩ := h
    obtain ⟨s1, s2⟩ := sameS_rel (w := w) hb hk h1 he hd h2
    cases b
    · simp only [cond_false] at h
      obtain ⟨q, hf, hq⟩ := find_ask hk he hd h2 h h4
      refine ⟨q, by simp [Instr.findAsking, s1, hf], ?_⟩
      rcases hq with hq | ⟨j, x, u, e', rfl, rfl, hx, he', hk', hs, m, hm1, hm2⟩
      · exact .inl hq
      · exact .inr ⟨j + 1, x, u, e', by rw [show i + (j + 1) = i + 1 + j from by omega], by rw [show i + (j + 1) = i + 1 + j from by omega], hx, by simpa using he', hk', hs, m, by simpa using hm1, hm2⟩
    · simp only [cond_true, Option.some.injEq] at h
      subst h
      obtain ⟨e1, e2⟩ := s2 rfl
      refine ⟨some (i, f.val), by simp [Instr.findAsking, s1], .inr ⟨0, e.val, f.val, f, rfl, rfl, h2', rfl, e1.symm, fun n => ?_, e, rfl, h3⟩⟩
      have := e2 n
      rw [e1] at this
      rw [e1]; exact this

/-- a key is found, or it is not -/
theorem find_rel {t : TypeId} {e0 : TE} (he : te P t = some e0) {k : AV} {v : Value} (hok : keyOk P t e0.und k = true) (hk : VR E k v) {es : List ME} {fs : List MapEntry} {r : Option (Nat × AV)} (h : findE e0.und k es 0 = some r) (hm : MR E es fs) :
    ∃ q, (Instr.findKey t v fs).run P w = .ok q w ∧ Found E v es fs 0 r q := by
  have flat : FlatK e0.und → ∃ q, (Instr.findKey t v fs).run P w = .ok q w ∧ Found E v es fs 0 r q := fun hd => by
    obtain ⟨q, h1, h2⟩ := find_flat hd hk h hm
    exact ⟨q, by simp [Instr.findKey, r_und he, h1], h2⟩
  cases hd : e0.und with
  | struct fs0 =>
    have h2 : twoI P t fs0.toList = true := by
      rw [hd] at hok
      unfold keyOk at hok
      split at hok
      · contradiction
      · contradiction
      · rename_i hh
        cases hh
        exact hok
      · cases hok
    rw [hd] at h
    obtain ⟨q, h3, h4⟩ := find_ask (w := w) hk he hd h2 h hm
    refine ⟨q, ?_, h4⟩
    cases fs with
    | nil =>
      have : q = none := by
        rw [Instr.findAsking] at h3
        simpa using h3.symm
      subst this
      simp [Instr.findKey, r_und he, Instr.findNow]
    | cons f fs =>
      have : Instr.findNow (.struct fs0) v (f :: fs) 0 = none := by simp [Instr.findNow, Instr.sameNow]
      simp [Instr.findKey, r_und he, hd, this, h3]
  | _ => exact flat (by rw [hd]; trivial)

theorem keyOk_run {t : TypeId} {e : TE} (he : te P t = some e) {k : AV} {v : Value} (h : keyOk P t e.und k = true) (hk : VR E k v) (b : Bool) : (Instr.checkKey b 10000 t v).run P w = .ok () w := by
  rw [show (10000 : Nat) = 9998 + 1 + 1 from rfl, Instr.checkKey, Sem.run_bind, r_und he]
  unfold keyOk at h
  split at h
  · rename_i hd
    simp only [VR] at hk
    subst hk
    rw [hd]; rfl
  · rename_i hd
    simp only [VR] at hk
    subst hk
    rw [hd]; rfl
  · rename_i fs j a l b' hd
    obtain ⟨f, g, rfl, hf, hg, hs⟩ := twoI_some h
    obtain ⟨f1, f2, ef, kf, f3, f4⟩ := intF_some hf
    obtain ⟨g1, g2, eg, kg, g3, g4⟩ := intF_some hg
    rw [two_rel hk, hd]
    have p1 := fun (x y : Value) => part_int (w := w) f3 f4 (arr := #[x, y]) (i := 0) (v := x) rfl
    have p2 := fun (x y : Value) => part_int (w := w) g3 g4 (arr := #[x, y]) (i := 1) (v := y) rfl
    have c1 : ∀ v, (Instr.checkKey b 9999 f.type v).run P w = .ok () w := fun v => by
      rw [Instr.checkKey, Sem.run_bind, r_und f3, f4]; rfl
    have c2 : ∀ v, (Instr.checkKey b 9999 g.type v).run P w = .ok () w := fun v => by
      rw [Instr.checkKey, Sem.run_bind, r_und g3, g4]; rfl
    simp [f1, f2, g1, g2, p1, p2, c1, c2]
  · cases h

theorem VR.tup2 {a b : AV} {u v : Value} (h1 : VR E a u) (h2 : VR E b v) : VR E (.tup [a, b]) (.tuple #[u, v]) := by
  simp only [VR]
  refine ⟨_, rfl, ?_, rfl⟩
  show VRP E [a, b] [u, v]
  exact VRP.cons_iff.2 ⟨h1, VRP.cons_iff.2 ⟨h2, VRP.nil⟩⟩

theorem lookup_does {t : TypeId} {x k y : AV} {ok : Bool} {xv kv : Value} (h : lookupA P S t x k ok = some y) (hx : VR E x xv) (hk : VR E k kv) (hr : HR E S.heap.get w) (_pr : PR E w) :
    DoesR P (Instr.lookup t xv kv ok) E w y := by
  simp only [lookupA, o2_eq, on3_eq, ob_some, chk_some] at h
  obtain ⟨e, he, ⟨kt, et⟩, hke, ke, hkt, ee, het, _, hok, es, hes, r, hf, h⟩ := h
  have hund := mapOf_some hke
  obtain ⟨z, hz, hzr⟩ := r_zero het
  have fin : ∀ fs : Array MapEntry, MR E es fs.toList → ∃ u, VR E y u ∧ ∀ b, (do
        Instr.checkKey b 10000 kt kv
        let (v, ok') ← match ← Instr.findKey kt kv fs.toList with
          | some (_, v) => pure (v, true)
          | none => pure (← zeroValue et, false)
        pure (if ok then Value.tuple #[v, .bool ok'] else v) : Sem Value).run P w = .ok u w := by
    intro fs hm
    obtain ⟨q, hn, ⟨rfl, rfl⟩ | ⟨j, x', u, e', rfl, rfl, hx', _⟩⟩ := find_rel (w := w) hkt hok hk hf hm
    · cases ok
      · cases h
        exact ⟨z, cv_rel E hz, fun b => by simp [keyOk_run hkt hok hk, hn, hzr]⟩
      · cases h
        exact ⟨.tuple #[z, .bool false], VR.tup2 (cv_rel E hz) (by simp only [VR]), fun b => by simp [keyOk_run hkt hok hk, hn, hzr]⟩
    · cases ok
      · cases h
        exact ⟨u, hx', fun b => by simp [keyOk_run hkt hok hk, hn]⟩
      · cases h
        exact ⟨.tuple #[u, .bool true], VR.tup2 hx' (by simp only [VR]), fun b => by simp [keyOk_run hkt hok hk, hn]⟩
  split at hes
  · cases hes
    simp only [VR] at hx
    subst hx
    obtain ⟨u, hu, hrun⟩ := fin #[] (by simp [MR])
    refine DoesR.of ?_ hu
    have := hrun (Array.isEmpty (#[] : Array MapEntry))
    simp only [Instr.lookup, Sem.run_bind, r_und he, hund, Result.andThen_ok, Sem.run_pure] at this ⊢
    exact this
  · rename_i n
    simp only [o2_eq, on3_eq, ob_some, Option.some.injEq] at hes
    obtain ⟨⟨es', c⟩, hes', rfl⟩ := hes
    simp only [VR] at hx
    obtain ⟨_, rfl⟩ := hx
    obtain ⟨arr, ho, hm⟩ := hr.entries hes'
    obtain ⟨u, hu, hrun⟩ := fin arr hm
    refine DoesR.of ?_ hu
    have := hrun arr.isEmpty
    simp only [Instr.lookup, Sem.run_bind, r_und he, hund, Result.andThen_ok, run_getMap ho, Sem.run_pure] at this ⊢
    exact this
  · cases hes

theorem MR.modify {f : ME → ME} {g : MapEntry → MapEntry} (hfg : ∀ e e', VR E e.key e'.key → VR E e.val e'.val → e.born = e'.born → VR E (f e).key (g e').key ∧ VR E (f e).val (g e').val ∧ (f e).born = (g e').born) :
    ∀ (i : Nat) {es : List ME} {fs : List MapEntry}, MR E es fs → MR E (es.modify i f) (fs.modify i g)
  | _, [], [], _ => by simp [MR]
  | _, [], _ :: _, h => by simp only [MR] at h
  | _, _ :: _, [], h => by simp only [MR] at h
  | 0, e :: es, e' :: fs, h => by
    simp only [MR] at h
    simp only [List.modify_zero_cons, MR]
    have := hfg e e' h.1 h.2.1 h.2.2.1
    exact ⟨this.1, this.2.1, this.2.2, h.2.2.2⟩
  | i + 1, e :: es, e' :: fs, h => by
    simp only [MR] at h
    simp only [List.modify_succ_cons, MR]
    exact ⟨h.1, h.2.1, h.2.2.1, MR.modify hfg i h.2.2.2⟩

theorem MR.push : ∀ {es : List ME} {fs : List MapEntry} {e : ME} {e' : MapEntry}, MR E es fs → VR E e.key e'.key → VR E e.val e'.val → e.born = e'.born → MR E (es ++ [e]) (fs ++ [e'])
  | [], [], _, _, _, h1, h2, h3 => by simp only [List.nil_append, MR]; exact ⟨h1, h2, h3, trivial⟩
  | [], _ :: _, _, _, h, _, _, _ => by simp only [MR] at h
  | _ :: _, [], _, _, h, _, _, _ => by simp only [MR] at h
  | _ :: es, _ :: fs, e, e', h, h1, h2, h3 => by
    simp only [MR] at h
    simp only [List.cons_append, MR]
    exact ⟨h.1, h.2.1, h.2.2.1, MR.push h.2.2.2 h1 h2 h3⟩

/-- a map's block changed -/
theorem setMap_does {n : Nat} {es es' : List ME} {c c' : Nat} {arr arr' : Array MapEntry} (hes : entriesOf S n = some (es, c)) (ho : w.heap[E.blk n]? = some (.map arr c)) (hm : MR E es' arr'.toList)
    (hr : HR E S.heap.get w) (pr : PR E w) : ∃ w', (setObj (E.blk n) (.map arr' c')).run P w = .ok () w' ∧
      Tran E S.heap.get w S.next E (S.heap.put n (.map es' c')).get w' S.next := by
  refine ⟨_, run_setMap ho _, Tran.set S.next hr pr (entriesOf_some hes) rfl rfl ⟨rfl, rfl, rfl⟩ (fun m => by rw [Tr.get_put]) ?_⟩
  simp only [BR]
  exact ⟨arr', rfl, hm⟩

theorem keyStays_run {old new : Value} (h : ∀ n, Instr.sameBits (n + 1) old new = true) : (Instr.keyThatStays old new).run P w = .ok new w := by
  simp only [Instr.keyThatStays, h 9999, if_true, Sem.run_pure]

theorem mapUpd_does {t : TypeId} {x k v : AV} {xv kv vv : Value} (h : mapUpdA P S t x k v = some S') (hx : VR E x xv) (hk : VR E k kv) (hv : VR E v vv) (hr : HR E S.heap.get w) (pr : PR E w) :
    ∃ w', (Instr.mapUpdate t xv kv vv).run P w = .ok () w' ∧ Tran E S.heap.get w S.next E S'.heap.get w' S'.next := by
  simp only [mapUpdA, o2_eq, on3_eq, ob_some, chk_some] at h
  obtain ⟨e, he, ⟨kt, et⟩, hke, ke, hkt, _, hok, h⟩ := h
  have hund := mapOf_some hke
  split at h
  · rename_i n
    simp only [o2_eq, on3_eq, ob_some] at h
    obtain ⟨⟨es, c⟩, hes, r, hf, h⟩ := h
    simp only [VR] at hx
    obtain ⟨_, rfl⟩ := hx
    obtain ⟨arr, ho, hm⟩ := hr.entries hes
    obtain ⟨q, hn, ⟨rfl, rfl⟩ | ⟨j, x', u, e', rfl, rfl, hx', he', hkey, hsame, _⟩⟩ := find_rel (w := w) hkt hok hk hf hm
    · cases h
      obtain ⟨w', h1, h2⟩ := setMap_does (P := P) (es' := es ++ [⟨k, v, c⟩]) (c' := c + 1) (arr' := arr.push { key := kv, val := vv, born := c }) hes ho (by simpa using MR.push hm hk hv rfl) hr pr
      refine ⟨w', ?_, h2⟩
      simp [Instr.mapUpdate, r_und he, hund, run_getMap ho, keyOk_run hkt hok hk, hn, h1]
    · cases h
      simp only [Nat.zero_add] at hn ⊢
      have hget : arr[j]? = some e' := by simpa using he'
      obtain ⟨w', h1, h2⟩ := setMap_does (P := P) (es' := es.modify j fun e => { e with key := k, val := v }) (c' := c) (arr' := arr.modify j fun e => { e with key := kv, val := vv }) hes ho
        (by rw [Array.toList_modify]; exact MR.modify (f := fun e => { e with key := k, val := v }) (g := fun e => { e with key := kv, val := vv }) (fun e e' _ _ h3 => ⟨hk, hv, h3⟩) j hm) hr pr
      refine ⟨w', ?_, h2⟩
      simp [Instr.mapUpdate, r_und he, hund, run_getMap ho, keyOk_run hkt hok hk, hn, hget, keyStays_run hsame, h1]
  · cases h

theorem mapEnt_does {t : TypeId} {x k y : AV} {xv kv : Value} (h : mapEntA P S t x k = some (y, S')) (hx : VR E x xv) (hk : VR E k kv) (hr : HR E S.heap.get w) (pr : PR E w) :
    DoesV P (Instr.mapEntry t xv kv) E S w y S' := by
  simp only [mapEntA, o2_eq, on3_eq, ob_some, chk_some] at h
  obtain ⟨e, he, ⟨kt, et⟩, hke, ke, hkt, ee, het, _, hok, h⟩ := h
  have hund := mapOf_some hke
  obtain ⟨z, hz, hzr⟩ := r_zero het
  split at h
  · rename_i n
    simp only [o2_eq, on3_eq, ob_some] at h
    obtain ⟨⟨es, c⟩, hes, r, hf, h⟩ := h
    simp only [VR] at hx
    obtain ⟨_, rfl⟩ := hx
    obtain ⟨arr, ho, hm⟩ := hr.entries hes
    obtain ⟨q, hn, ⟨rfl, rfl⟩ | ⟨j, x', u, e', rfl, rfl, hx', he', hkey, hsame, m, hm1, hm2⟩⟩ := find_rel (w := w) hkt hok hk hf hm
    · cases h
      obtain ⟨w', h1, h2⟩ := setMap_does (P := P) (es' := es ++ [⟨k, ee.zero, c⟩]) (c' := c + 1) (arr' := arr.push { key := kv, val := z, born := c }) hes ho (by simpa using MR.push hm hk (cv_rel E hz) rfl) hr pr
      refine ⟨.tuple #[z, goInt c], w', E, ?_, ?_, h2⟩
      · simp [Instr.mapEntry, r_und he, hund, run_getMap ho, keyOk_run hkt hok hk, hn, hzr, h1]
      · exact VR.tup2 (cv_rel E hz) (by simp only [VR, goInt])
    · cases h
      simp only [Nat.zero_add] at hn ⊢
      have hget : arr[j]? = some e' := by simpa using he'
      obtain ⟨w', h1, h2⟩ := setMap_does (P := P) (es' := es.modify j fun e => { e with key := k }) (c' := c) (arr' := arr.modify j fun e => { e with key := kv }) hes ho
        (by rw [Array.toList_modify]; exact MR.modify (f := fun e => { e with key := k }) (g := fun e => { e with key := kv }) (fun e e' _ h2 h3 => ⟨hk, h2, h3⟩) j hm) hr pr
      refine ⟨.tuple #[u, goInt e'.born], w', E, ?_, ?_, h2⟩
      · simp [Instr.mapEntry, r_und he, hund, run_getMap ho, keyOk_run hkt hok hk, hn, hget, keyStays_run hsame, h1]
      · exact VR.tup2 hx' (by simp only [VR, hm1, Option.map_some, Option.getD_some, hm2, goInt])
  · cases h

theorem findIdx_rel {b : Int} : ∀ {es : List ME} {fs : List MapEntry}, MR E es fs → (es.findIdx? fun e => (e.born : Int) == b) = fs.findIdx? fun e => (e.born : Int) == b
  | [], [], _ => rfl
  | [], _ :: _, h => by simp only [MR] at h
  | _ :: _, [], h => by simp only [MR] at h
  | e :: es, e' :: fs, h => by
    simp only [MR] at h
    simp only [List.findIdx?_cons, h.2.2.1, findIdx_rel h.2.2.2]

theorem entSt_does {t : TypeId} {x s v : AV} {xv sv vv : Value} (h : entStA S x s v = some S') (hx : VR E x xv) (hs : VR E s sv) (hv : VR E v vv) (hr : HR E S.heap.get w) (pr : PR E w) :
    ∃ w', (Instr.entryStore t xv sv vv).run P w = .ok () w' ∧ Tran E S.heap.get w S.next E S'.heap.get w' S'.next := by
  unfold entStA at h
  split at h
  · rename_i n k b
    simp only [o2_eq, on3_eq, ob_some, Option.some.injEq] at h
    obtain ⟨⟨es, c⟩, hes, i, hi, rfl⟩ := h
    simp only [VR] at hx hs
    obtain ⟨_, rfl⟩ := hx
    subst hs
    obtain ⟨arr, ho, hm⟩ := hr.entries hes
    obtain ⟨w', h1, h2⟩ := setMap_does (P := P) (es' := es.modify i fun e => { e with val := v }) (c' := c) (arr' := arr.modify i fun e => { e with val := vv }) hes ho
      (by rw [Array.toList_modify]; exact MR.modify (f := fun e => { e with val := v }) (g := fun e => { e with val := vv }) (fun e e' h1 _ h3 => ⟨h1, hv, h3⟩) i hm) hr pr
    refine ⟨w', ?_, h2⟩
    rw [findIdx_rel hm] at hi
    have hi' : (arr.findIdx? fun e => (e.born : Int) == b) = some i := by rw [← hi]; cases arr; simp
    simp [Instr.entryStore, run_getMap ho, asInt, asIntOf, hi', h1]
  · cases h


/-! conversions -/
theorem src_rel {size : Nat} {x : AV} {v : Value} {cs : List AV} {n : Nat} (h : srcA S size x = some cs) (hn : lenOfA x = some n) (hx : VR E x v) (hr : HR E S.heap.get w) (pr : PR E w) :
    ∃ us : Array Value, (∀ w' : World, w'.heap = w.heap → (Builtin.firstCells size n v).run P w' = .ok us w') ∧ (Builtin.lenOf v).run P w = .ok n w ∧ VRP E cs us.toList ∧ cs.length = us.size ∧ cs.length = n * size := by
  unfold srcA at h
  split at h
  · rename_i s
    simp only [o2_eq, on3_eq, ob_some, chk_some, nbeq_iff, Option.some.injEq] at h
    obtain ⟨_, rfl, rfl⟩ := h
    simp only [lenOfA, Option.some.injEq] at hn
    subst hn
    simp only [VR] at hx
    subst hx
    refine ⟨s.data.map fun b => .int .u8 b.toNat, ?_, rfl, ?_, by simp, by rw [List.length_map, Nat.mul_one]; rfl⟩
    · intro w' _; simp only [Builtin.firstCells, Sem.run_pure, ByteArray.extract_zero_size]
    · have : ∀ l : List UInt8, VRP E (l.map fun b => AV.int .u8 b.toNat) (l.map fun b => Value.int .u8 b.toNat) := by
        intro l
        induction l with
        | nil => exact VRP.nil
        | cons b l ih => exact VRP.cons_iff.2 ⟨by simp only [VR], ih⟩
      simpa using this s.data.toList
  · cases h
    simp only [lenOfA, Option.some.injEq] at hn
    subst hn
    simp only [VR] at hx
    subst hx
    exact ⟨#[], fun _ _ => rfl, rfl, VRP.nil, rfl, by simp⟩
  · rename_i b off len cap z
    simp only [o2_eq, on3_eq, ob_some] at h
    obtain ⟨c, hc, h⟩ := h
    simp only [lenOfA, Option.some.injEq] at hn
    subst hn
    simp only [VR] at hx
    obtain ⟨_, c', rfl, _⟩ := hx
    obtain ⟨arr, el, fz, hw, _, hv⟩ := hr.reads hc
    obtain ⟨rfl, hl, hle⟩ := sub_some h
    by_cases h0 : len * size = 0
    · refine ⟨#[], fun w' _ => by simp only [Builtin.firstCells, h0]; rfl, rfl, ?_, by rw [hl, h0]; rfl, hl⟩
      rw [h0, List.take_zero]; exact VRP.nil
    · have hvl := hv.len
      simp at hvl
      refine ⟨((arr.toList.drop (E.sh b + off)).take (len * size)).toArray, ?_, rfl, ?_, ?_, hl⟩
      · intro w' hw'
        simp only [Builtin.firstCells]
        exact run_loadCells (by rw [hw']; exact hw) _ (by omega)
      · rw [← List.drop_drop]
        exact VRP.takeR _ (VRP.take _ (VRP.drop _ hv)) (by rw [hl]; exact Nat.le_refl _)
      · rw [hl]; simp; omega
  · rename_i cs' len
    simp only [lenOfA, Option.some.injEq] at hn
    subst hn
    simp only [VR] at hx
    rcases hx with ⟨b, o, sp, c', rfl, _, hcs⟩ | ⟨rfl, rfl, rfl⟩
    rotate_left
    · obtain ⟨rfl, hl, hle⟩ := sub_some h
      refine ⟨#[], fun _ _ => ?_, rfl, ?_, ?_, ?_⟩
      · simp only [Builtin.firstCells]; rfl
      · simp only [List.drop_nil, List.take_nil]; exact VRP.nil
      · simp
      · simp
    obtain ⟨rfl, hl, hle⟩ := sub_some h
    by_cases h0 : len * size = 0
    · refine ⟨#[], fun w' _ => by simp only [Builtin.firstCells, h0]; rfl, rfl, ?_, by rw [hl, h0]; rfl, hl⟩
      rw [h0, List.take_zero]; exact VRP.nil
    · rcases hcs with rfl | ⟨rfl, arr, hp, hv⟩
      · simp at hl; omega
      · obtain ⟨el, fz, hw⟩ := pr.blk b arr hp
        have hvl := hv.len
        simp at hvl
        refine ⟨((arr.toList.drop o).take (len * size)).toArray, ?_, rfl, ?_, ?_, hl⟩
        · intro w' hw'
          simp only [Builtin.firstCells]
          exact run_loadCells (by rw [hw']; exact hw) _ (by simp at hle; omega)
        · simp only [List.drop_zero]
          exact VRP.takeR _ (VRP.take _ (VRP.mono (Ext.ofIce E) _ _ hv)) (by simpa using Nat.le_of_eq hl)
        · rw [hl]; simp; simp at hle; omega
  · cases h


theorem bytes_rel (bad : ByteArray → Sem (ForInStep ByteArray)) : ∀ {cs : List AV} {us : List Value} {bs : List UInt8}, bytesOfA cs = some bs → VRP E cs us → cs.length = us.length →
    ∀ s : ByteArray, ((forIn us s fun c s =>
      match c with
      | Value.int IntKind.u8 n => pure (ForInStep.yield (s.push (UInt8.ofNat n.toNat)))
      | _ => bad s) : Sem ByteArray).run P w = .ok ⟨s.data ++ bs.toArray⟩ w
  | [], [], bs, h, _, _, s => by
    simp only [bytesOfA, Option.some.injEq] at h
    subst h
    simp
  | [], _ :: _, _, _, _, hl, _ => by simp at hl
  | _ :: _, [], _, _, hr, _, _ => by simp only [VRP] at hr
  | c :: cs, u :: us, bs, h, hr, hl, s => by
    rw [VRP.cons_iff] at hr
    unfold bytesOfA at h
    split at h
    · cases ‹_ :: _ = []›
    · rename_i n r heq
      cases heq
      simp only [o2_eq, on3_eq, ob_some, Option.some.injEq] at h
      obtain ⟨bs', hb, rfl⟩ := h
      simp only [VR] at hr
      obtain ⟨rfl, hr⟩ := hr
      rw [List.forIn_cons, Sem.run_bind]
      have := bytes_rel bad hb hr (by simpa using hl) (s.push (UInt8.ofNat n.toNat))
      simp only [Sem.run_pure, Result.andThen_ok]
      rw [this]
      simp [ByteArray.push]
    · cases h

theorem liesAt_self {e : TypeId} {c count : Nat} (hc : P.cellsOf e = c) (h0 : 0 < c) (h1 : 1 ≤ count) : liesAt P P.depth e count 0 e 1 = true := by
  have hd : P.depth = (2 * (P.types.size + Made.depth) + 1) + 1 := rfl
  rw [hd]
  simp only [liesAt, Bool.or_eq_true]
  left
  rw [hd]
  have : ¬ c = 0 := by omega
  simp [rowAt, hc, h1, sameLayout, this]

theorem shape_of {b : Nat} {arr : Array Value} {el : TypeId} {fz : Nat × Nat} (h : w.heap[b]? = some (.cells arr el fz)) : w.shape? b = some (el, arr.size) := by
  simp [World.shape?, h]

theorem typed_obj {n : Nat} {t : TypeId} {cs : List AV} (ht : typed S n t = true) (hc : cellsOf S n = some cs) (hr : HR E S.heap.get w) :
    ∃ arr fz, w.heap[E.blk n]? = some (.cells arr t fz) ∧ E.sh n = 0 ∧ E.bsz n = arr.size ∧ (∀ i, i < arr.size → (decide (fz.1 ≤ i) && decide (i < fz.2)) = false) ∧ VRP E cs arr.toList := by
  obtain ⟨b, hb, _, hk⟩ := cellsOf_some hc
  unfold typed at ht
  rw [hb] at ht
  rcases hk with rfl | ⟨u, rfl⟩
  · cases ht
  · obtain rfl : u = t := nbeq_iff.1 ht
    obtain ⟨_, o, ho, hbr⟩ := hr.blk n _ hb
    simp only [BR] at hbr
    obtain ⟨arr, fz, rfl, h0, hs, hf, hv⟩ := hbr
    exact ⟨arr, fz, ho, h0, hs, hf, by rw [h0] at hv; simpa using hv⟩

theorem convU_does {src dst : TypeId} {x y : AV} {v : Value} {s d : TE} (hs : te P src = some s) (hd : te P dst = some d) (h : convU P S s.und d.und x = some y) (hx : VR E x v) (hr : HR E S.heap.get w) (pr : PR E w) : DoesR P (convert src dst v) E w y := by
  unfold convU at h
  split at h
  · rename_i t n off h1 h2
    simp only [o2_eq, on3_eq, ob_some, chk_some, Bool.and_eq_true, Bool.not_eq_true', nblt_iff, Option.some.injEq] at h
    obtain ⟨g, hg, cs, hcs, _, ⟨hz, hlt⟩, rfl⟩ := h
    have hx0 := hx
    simp only [VR] at hx
    obtain ⟨dn, rfl⟩ := hx
    obtain ⟨arr, el, fz, hw, _, hv⟩ := hr.reads hcs
    have hl := hv.len
    simp at hl
    obtain ⟨i, hi, _, hi1, _⟩ := te_some hg
    obtain ⟨_, _, us, _⟩ := te_some hs
    obtain ⟨_, _, ud, _⟩ := te_some hd
    refine DoesR.of ?_ hx0
    exact Lib.run_to_unsafe w _ (by rw [us, h1]) (by rw [ud, h2]) hi (by rw [hi1]; intro e; rw [e] at hz; cases hz) (shape_of hw) (by show E.sh n + off < arr.size; omega)
  · rename_i u n off h1 h2
    simp only [o2_eq, on3_eq, ob_some, chk_some, Bool.and_eq_true, nbeq_iff, nblt_iff, nble_iff, Option.some.injEq] at h
    obtain ⟨g, hg, cs, hcs, _, ⟨⟨⟨rfl, ht⟩, hc0⟩, hc1⟩, rfl⟩ := h
    obtain ⟨arr, fz, hw, h0, _, _, hv⟩ := typed_obj ht hcs hr
    have hl := hv.len
    simp at hl
    have hx0 := hx
    simp only [VR] at hx
    obtain ⟨dn, rfl⟩ := hx
    obtain ⟨i, hi, _, hi1, _⟩ := te_some hg
    obtain ⟨_, _, us, _⟩ := te_some hs
    obtain ⟨_, _, ud, _⟩ := te_some hd
    refine DoesR.of ?_ hx0
    rw [h0]
    refine Lib.run_from_unsafe w _ (by rw [us, h1]) (by rw [ud, h2]) hi (shape_of hw) (liesAt_self rfl hc0 ?_)
    exact (Nat.le_div_iff_mul_le hc0).2 (by omega)
  · cases h

theorem conv_does {src dst : TypeId} {x y : AV} {v : Value} (h : convA P S src dst x = some y) (hx : VR E x v) (hr : HR E S.heap.get w) (pr : PR E w) : DoesR P (convert src dst v) E w y := by
  simp only [convA, o2_eq, on3_eq, ob_some] at h
  obtain ⟨s, hs, d, hd, h⟩ := h
  have u1 := r_und hs w
  have u2 := r_und hd w
  split at h
  · rename_i k0 k j n h1 h2
    cases h
    simp only [VR] at hx
    subst hx
    refine DoesR.of ?_ (v' := .int k (k.wrap n)) (by simp only [VR])
    rw [convert, Sem.run_bind, u1]
    simp only [Result.andThen_ok, Sem.run_bind, u2, h1, h2]
    rfl
  · rename_i b h1 h2
    cases h
    simp only [VR] at hx
    subst hx
    refine DoesR.of ?_ (v' := .string b) (by simp only [VR])
    rw [convert, Sem.run_bind, u1]
    simp only [Result.andThen_ok, Sem.run_bind, u2, h1, h2]
    rfl
  · rename_i e h1 h2
    simp only [o2_eq, on3_eq, ob_some] at h
    obtain ⟨g, hg, h⟩ := h
    have u3 := r_und hg w
    have go : ∀ (nv : Value) (hb : (Conv.bytesToString v).run P w = .ok nv w) (hk : g.und = .int .u8) (hsl : ∃ a l c, v = .slice a l c), (convert src dst v).run P w = .ok nv w := by
      intro nv hb hk hsl
      obtain ⟨a, l, c, rfl⟩ := hsl
      rw [convert, Sem.run_bind, u1]
      simp only [Result.andThen_ok, Sem.run_bind, u2, h1, h2]
      cases a <;> simp only [u3, Result.andThen_ok, hk, hb]
    have bytes : ∀ (cs : List AV) (bs : List UInt8) (len : Nat) (a : Addr) (c : Nat) (us : Array Value), v = .slice (some a) len c → (loadCells a len).run P w = .ok us w → VRP E cs us.toList → cs.length = us.size → bytesOfA cs = some bs →
        (Conv.bytesToString v).run P w = .ok (.string ⟨bs.toArray⟩) w := by
      intro cs bs len a c us hv hload hrel hl hb
      subst hv
      have := fun bad => bytes_rel (P := P) (w := w) bad hb hrel (by simpa using hl) ByteArray.empty
      simp only [Conv.bytesToString, Sem.run_bind, hload, Result.andThen_ok]
      rw [← Array.forIn_toList]
      refine Eq.trans (congrArg (fun r : Result ByteArray => r.andThen fun a w' => (pure (Value.string a) : Sem Value).run P w') (this _)) ?_
      show Result.ok (Value.string ⟨#[] ++ bs.toArray⟩) w = _
      simp
    split at h
    · rename_i hk
      cases h
      simp only [VR] at hx
      subst hx
      exact DoesR.of (go _ rfl hk ⟨_, _, _, rfl⟩) (by simp only [VR])
    · rename_i b off len c z hk
      simp only [o2_eq, on3_eq, ob_some, Option.some.injEq] at h
      obtain ⟨cs, hcs, bs, hbs, rfl⟩ := h
      obtain ⟨us, h1', _, h3, h4, _⟩ := src_rel (P := P) hcs (n := len) rfl hx hr pr
      simp only [VR] at hx
      obtain ⟨_, c', rfl, _⟩ := hx
      have h1' := h1' w rfl
      simp only [Builtin.firstCells, Nat.mul_one] at h1'
      exact DoesR.of (go _ (bytes cs bs _ _ _ us rfl h1' h3 h4 hbs) hk ⟨_, _, _, rfl⟩) (by simp only [VR])
    · rename_i cs' len hk
      simp only [o2_eq, on3_eq, ob_some, Option.some.injEq] at h
      obtain ⟨cs, hcs, bs, hbs, rfl⟩ := h
      obtain ⟨us, h1', _, h3, h4, _⟩ := src_rel (P := P) hcs (n := len) rfl hx hr pr
      simp only [VR] at hx
      rcases hx with ⟨_, _, _, c', rfl, _⟩ | ⟨rfl, rfl, rfl⟩
      rotate_left
      · simp only [srcA] at hcs
        obtain ⟨rfl, _, _⟩ := sub_some hcs
        simp only [List.drop_nil, List.take_nil, bytesOfA, Option.some.injEq] at hbs
        subst hbs
        exact DoesR.of (go _ rfl hk ⟨_, _, _, rfl⟩) (by simp only [VR]; rfl)
      have h1' := h1' w rfl
      simp only [Builtin.firstCells, Nat.mul_one] at h1'
      exact DoesR.of (go _ (bytes cs bs _ _ _ us rfl h1' h3 h4 hbs) hk ⟨_, _, _, rfl⟩) (by simp only [VR])
    · cases h
  · exact convU_does hs hd h hx hr pr


/-! append -/
theorem zeroCells_size (z : Array Value) (n : Nat) : (Builtin.zeroCells z n).size = n * z.size := by simp [Builtin.zeroCells]

theorem growBy_le (newLen : Nat) : ∀ (r c : Nat), c ≤ newLen → Builtin.growBy newLen r c ≤ newLen + (newLen + 768) / 4
  | 0, c, h => by simp only [Builtin.growBy]; omega
  | r + 1, c, h => by
    simp only [Builtin.growBy]
    split
    · omega
    · by_cases hc : c + (c + 768) / 4 ≤ newLen
      · exact growBy_le newLen r _ hc
      · cases r with
        | zero => simp only [Builtin.growBy]; omega
        | succ r => simp only [Builtin.growBy]; rw [if_pos (by omega)]; omega

theorem nextcap_le (newLen oldCap : Nat) (h : oldCap ≤ newLen) : Builtin.nextslicecap newLen oldCap ≤ 2 * newLen + 192 := by
  unfold Builtin.nextslicecap
  split
  · omega
  · split
    · omega
    · have := growBy_le newLen 4 oldCap h; omega

theorem room_spec {need bytes : Nat} (h : roomOk need bytes = true) : need ≤ big ∧ need * bytes ≤ big := by
  unfold roomOk at h
  simpa [nble_iff] using h

theorem no_limit {need sCap bytes : Nat} (h : roomOk need bytes = true) (hlt : sCap < need) : ¬ (Builtin.nextslicecap need sCap * bytes > 2 ^ 48) := by
  obtain ⟨h1, h2⟩ := room_spec h
  have hc := nextcap_le need sCap (by omega)
  have hb : bytes ≤ need * bytes := by
    have := Nat.mul_le_mul_right bytes (show 1 ≤ need by omega)
    simpa using this
  have h3 : Builtin.nextslicecap need sCap * bytes ≤ (2 * need + 192) * bytes := Nat.mul_le_mul_right _ hc
  have h4 : (2 * need + 192) * bytes = 2 * (need * bytes) + 192 * bytes := by rw [Nat.add_mul, Nat.mul_assoc]
  have h48 : (2 : Nat) ^ 48 = 281474976710656 := rfl
  unfold big at h1 h2
  rw [h48]
  omega

theorem grow_does [Mx] {t u : TypeId} {x z : AV} {xv yv : Value} (ty : TypeId) {ue : TE} (hue : te P u = some ue) (hui : ∀ k, ue.und ≠ .int k) {e : TE} {elem : TypeId} {g : TE} (he : te P t = some e) (hel : sliceOf e.und = some elem) (hg : te P elem = some g)
    (hgz : g.zero.cells.length = g.size) (hgn : (!g.size.beq 0) = true) {new : List AV} {m : Nat} {us : Array Value} (hfirst : ∀ w' : World, w'.heap = w.heap → (Builtin.firstCells g.size m yv).run P w' = .ok us w') (hlen : (Builtin.lenOf yv).run P w = .ok m w)
    (hrel : VRP E new us.toList) (hus : new.length = us.size) (hnl : new.length = m * g.size) (hone : new.all AV.one = true) (h : growA S elem g new m x = some (z, S')) (hx : VR E x xv)
    (hr : HR E S.heap.get w) (pr : PR E w) (fresh : ∀ n, S.next ≤ n → n < S'.next → ¬ E.dom n) : DoesV P (Builtin.append_ #[t, u] ty #[xv, yv]) E S w z S' := by
  have hund := sliceOf_some hel
  obtain ⟨zv, hz, hzr⟩ := r_zero hg
  obtain ⟨i, hi, hi1, hi2⟩ := r_info hg
  have hzl : zv.cells.size = g.size := by have := (cv_rel E hz).cells.2; omega
  have hgs : g.size ≠ 0 := fun e => by rw [e] at hgn; cases hgn
  -- the two ways of the model's append
  have inPlace : ∀ (base : Option Addr) (len cap : Nat), len + m ≤ cap → ∀ w' : World, ((match base with
      | some a => storeCells (a.add (len * g.size)) us.toList
      | none => pure () : Sem Unit)).run P w = .ok () w' → (Builtin.append_ #[t, u] ty #[.slice base len cap, yv]).run P w = .ok (.slice base (len + m) cap) w' := by
    intro base len cap hle w' hrun
    simp only [Builtin.append_, List.getElem?_toArray, List.getElem?_cons_zero, List.getElem?_cons_succ, Sem.run_bind, r_und he, hund, Result.andThen_ok, r_size hg, r_und hue, Sem.run_pure, Bool.false_eq_true, if_false, hlen]
    rw [if_pos hle]
    simp only [Bool.not_false, if_true, Sem.run_bind, hfirst w rfl, Result.andThen_ok]
    cases base with
    | none => simp only [Sem.run_pure, Result.ok.injEq, true_and] at hrun ⊢; exact hrun
    | some a => simp only [Sem.run_bind, hrun, Result.andThen_ok, Sem.run_pure]
  have grow : ∀ (base : Option Addr) (len cap : Nat), cap < len + m → roomOk (len + m) g.bytes = true → ∀ old : Array Value, (∀ w' : World, w'.heap = w.heap → (Builtin.firstCells g.size len (.slice base len cap)).run P w' = .ok old w') →
      old.size = len * g.size →
      ∃ (c : Nat) (rest : Array Value) (w1 : World), w1.heap = w.heap ∧ Env w w1 ∧ len + m ≤ c ∧ (old ++ us ++ rest).size = c * g.size ∧
        (Builtin.append_ #[t, u] ty #[.slice base len cap, yv]).run P w = ((newRow elem (old ++ us ++ rest)).run P w1).andThen fun a w' => .ok (.slice (some a) (len + m) c) w' := by
    intro base len cap hlt hroom old hold hos
    have hsm := (room_spec hroom).1
    have hq : (Question.appendCap (len + m) cap elem).forced = false := rfl
    refine ⟨(Question.appendCap (len + m) cap elem).cut (w.tape w.drawn (Question.appendCap (len + m) cap elem)),
      Builtin.zeroCells zv.cells ((Question.appendCap (len + m) cap elem).cut (w.tape w.drawn (Question.appendCap (len + m) cap elem)) - (len + m)), { w with drawn := w.drawn + 1 }, rfl, ⟨rfl, rfl, rfl⟩, ?_, ?_, ?_⟩
    · simp only [Question.cut]; omega
    · have : len + m ≤ (Question.appendCap (len + m) cap elem).cut (w.tape w.drawn (Question.appendCap (len + m) cap elem)) := by simp only [Question.cut]; omega
      generalize (Question.appendCap (len + m) cap elem).cut (w.tape w.drawn (Question.appendCap (len + m) cap elem)) = c at *
      have hus2 : us.size = m * g.size := by omega
      rw [Array.size_append, Array.size_append, zeroCells_size, hzl, hos, hus2, ← Nat.add_mul, ← Nat.add_mul]
      congr 1; omega
    · have big1 : ¬ (((len + m : Nat) : Int) > IntKind.i64.max ∧ (False ∨ i.bytes = 0)) := by
        rintro ⟨h1, _⟩
        have : IntKind.i64.max = 9223372036854775807 := by decide
        unfold big at hsm
        omega
      have big2 : ¬ (Builtin.nextslicecap (len + m) cap * i.bytes > 2 ^ 48) := by rw [hi2]; exact no_limit hroom hlt
      simp only [Builtin.append_, List.getElem?_toArray, List.getElem?_cons_zero, List.getElem?_cons_succ, Sem.run_bind, r_und he, hund, Result.andThen_ok, r_size hg, r_und hue, Sem.run_pure, Bool.false_eq_true, if_false, hlen]
      rw [if_neg (by omega)]
      simp only [Sem.run_bind, hi, Result.andThen_ok]
      rw [if_neg big1]
      simp only [Sem.run_bind, hi, Result.andThen_ok]
      rw [if_neg big2]
      simp only [Sem.run_bind, run_choose, hq, Bool.false_eq_true, if_false, Result.andThen_ok, hi, run_askRoom, Bool.not_false, if_true]
      rw [hold { w with drawn := w.drawn + 1 } rfl]
      simp only [Result.andThen_ok]
      rw [hfirst { w with drawn := w.drawn + 1 } rfl]
      simp only [Result.andThen_ok, hzr, Sem.run_pure]
  -- a new row
  have made : ∀ (b : Bool) (base : Option Addr) (len cap : Nat) (old : List AV) (oldv : Array Value) (S0 : St), S0.next = S.next → (∀ n b, S0.heap.get n = some b → S.heap.get n = some b) → ¬ E.dom S.next →
      cap < len + m → roomOk (len + m) g.bytes = true → (∀ w' : World, w'.heap = w.heap → (Builtin.firstCells g.size len (.slice base len cap)).run P w' = .ok oldv w') →
      VRP E old oldv.toList → old.length = oldv.size → oldv.size = len * g.size →
      DoesV P (Builtin.append_ #[t, u] ty #[.slice base len cap, yv]) E S w (.ms S.next 0 (len + m) none g.size) (newB S0 (rowB b elem (old ++ new))) := by
    intro b base len cap old oldv S0 hS0 hsub hx0 hlt hroom hold ho1 ho2 ho3
    obtain ⟨c, rest, w1, hw1, henv, hc, hsz, hrun⟩ := grow base len cap hlt hroom oldv hold ho3
    have hr1 : HR E S0.heap.get w1 := by
      have := hr.weaken hsub
      exact ⟨fun n b hb => by rw [hw1]; exact this.blk n b hb, this.free, this.inj⟩
    have pr1 : PR E w1 := ⟨fun b arr hb => by rw [hw1]; exact pr.blk b arr hb, pr.gl⟩
    have hcells : VRP E (old ++ new) (oldv ++ us ++ rest).toList := by
      rw [Array.toList_append, Array.toList_append, List.append_assoc]
      rw [← List.append_assoc]
      exact VRP.more (VRP.append ho1 (by simpa using ho2) hrel)
    obtain ⟨a, w', E', hnew', d1, d2, d3, d4, ht⟩ := newRowB_does (P := P) b elem hr1 pr1 (by rw [hS0]; exact hx0) hcells
    rw [hS0] at d1 d2 d3 d4
    refine ⟨.slice (some a) (len + m) c, w', E', ?_, ?_, ?_⟩
    · rw [hrun, hnew']; rfl
    · simp only [VR]
      exact ⟨d1, c, by rw [d2]; simp, hc, by rw [d3, d4, hsz]; omega, fun k hk => by cases hk⟩
    · rw [hS0] at ht
      have hn : (newB S0 (rowB b elem (old ++ new))).next = S.next + 1 := by simp [newB, hS0]
      refine ⟨ht.ext, ht.le, ht.dom, ht.hr, ht.pr, by rw [← hw1]; exact ht.size, ?_, ?_, ?_, ?_, henv.trans ht.env⟩
      · intro n b hb
        rcases ht.names n b hb with ⟨c, hc⟩ | r
        · exact .inl ⟨c, hsub n c hc⟩
        · exact .inr r
      · intro n b hb hl
        obtain ⟨k, c, hk, e⟩ := ht.own n b hb (by rw [hw1]; exact hl)
        exact ⟨k, c, hsub k c hk, e⟩
      · intro k hk hn
        rw [ht.frame k (by rw [hw1]; exact hk) (fun n c hc => hn n c (hsub n c hc)), hw1]
      · intro k hk hn
        exact ht.prot k (by rw [hw1]; exact hk) (fun n c hc => hn n c (hsub n c hc))
  unfold growA at h
  split at h
  · simp only [VR] at hx
    subst hx
    by_cases h0 : m = 0
    · rw [nbeq_iff.2 h0, bc_true] at h
      cases h
      subst h0
      exact DoesV.same hr pr (inPlace none 0 0 (Nat.le_refl _) w rfl) (by simp only [VR])
    · rw [nbeq_false h0, bc_false] at h
      simp only [o2_eq, on3_eq, ob_some, chk_some, Option.some.injEq, Prod.mk.injEq] at h
      obtain ⟨_, hroom, rfl, rfl⟩ := h
      have := made (Mx.ty elem) none 0 0 [] #[] S rfl (fun _ _ h => h) (fresh S.next (Nat.le_refl _) (Nat.lt_succ_self _)) (by omega) (by simpa using hroom) (fun _ _ => rfl) VRP.nil rfl (by simp)
      simpa using this
  · rename_i n off len cap z'
    simp only [o2_eq, on3_eq, ob_some, chk_some, Bool.and_eq_true, nbeq_iff] at h
    obtain ⟨c, hc, _, ⟨rfl, hroom⟩, h⟩ := h
    have hx' := hx
    simp only [VR] at hx
    obtain ⟨d, k, rfl, hlk, hrm, hcap⟩ := hx
    obtain ⟨arr, el, fz, hw, hs, hf, hv⟩ := hr.cells hc
    -- the old cells
    have oldc : ∀ old, sub c off (len * g.size) = some old → ∃ oldv : Array Value,
        (∀ w' : World, w'.heap = w.heap → (Builtin.firstCells g.size len (.slice (some ⟨E.blk n, E.sh n + off, none⟩) len k)).run P w' = .ok oldv w') ∧ VRP E old oldv.toList ∧ old.length = oldv.size ∧ oldv.size = len * g.size := by
      intro old ho
      obtain ⟨ov, h1, _, h3, h4, h5⟩ := src_rel (P := P) (S := S) (x := .ms n off len cap g.size) (size := g.size) (cs := old) (n := len) (by simp only [srcA, readOf_cells hc]; exact ho) rfl hx' hr pr
      exact ⟨ov, h1, h3, h4, by omega⟩
    split at h
    · rename_i k'
      obtain rfl : k = k' := hcap k' rfl
      by_cases hle : len + m ≤ k
      · rw [nble_iff.2 hle, bc_true] at h
        simp only [o2_eq, on3_eq, ob_some, Option.some.injEq, Prod.mk.injEq] at h
        obtain ⟨r, ho, rfl, rfl⟩ := h
        obtain ⟨w', hst, ht⟩ := over_does (P := P) (h' := (S.heap.put n (.cells r)).get) hc ho hrel (by simpa using hus) hone hr pr (fun m => by rw [Tr.get_put]) S.next
        refine ⟨.slice (some ⟨E.blk n, E.sh n + off, none⟩) (len + m) k, w', E, inPlace _ _ _ hle w' ?_, ?_, ht⟩
        · simp only [add_mk, Nat.add_assoc] at hst ⊢
          exact hst
        · simp only [VR]
          exact ⟨d, k, rfl, hle, hrm, fun k' hk => by cases hk; rfl⟩
      · have hb : Nat.ble (len + m) k = false := by
          cases hb : Nat.ble (len + m) k with
          | false => rfl
          | true => exact absurd (nble_iff.1 hb) hle
        rw [hb, bc_false] at h
        simp only [o2_eq, on3_eq, ob_some, Option.some.injEq, Prod.mk.injEq] at h
        obtain ⟨old, ho, rfl, rfl⟩ := h
        obtain ⟨oldv, h1, h2, h3, h4⟩ := oldc old ho
        exact made _ _ _ _ old oldv S rfl (fun _ _ h => h) (fresh S.next (Nat.le_refl _) (Nat.lt_succ_self _)) (by omega) hroom h1 h2 h3 h4
    · simp only [o2_eq, on3_eq, ob_some, Option.some.injEq, Prod.mk.injEq] at h
      obtain ⟨old, ho, rfl, rfl⟩ := h
      obtain ⟨oldv, h1, h2, h3, h4⟩ := oldc old ho
      have hx0 := fresh S.next (Nat.le_refl _) (Nat.lt_succ_self _)
      have hsub : ∀ k b, (S.heap.del n).get k = some b → S.heap.get k = some b := by
        intro k b hb
        rw [Tr.get_del] at hb
        split at hb
        · cases hb
        · exact hb
      by_cases hle : len + m ≤ k
      · -- in place, under a new name
        have husz : us.size = m * g.size := by omega
        have hroom2 : E.sh n + off + len * g.size + 0 + us.toList.length ≤ arr.size := by
          have : (len + m) * g.size ≤ k * g.size := Nat.mul_le_mul_right _ hle
          rw [Nat.add_mul] at this
          simp only [Array.length_toList]
          omega
        obtain ⟨w', hst, hheap, henv⟩ := run_storeCells (P := P) (o := E.sh n + off + len * g.size) us.toList 0 w arr hw hf (all_one hrel (by simpa using hus) hone) hroom2
        obtain ⟨rfl, hol, _⟩ := sub_some ho
        have ext := Ext.add (E := E) hx0 (E.blk n) (E.sh n + off) (E.bsz n)
        obtain ⟨a1, a2, a3, a4⟩ := add_self E S.next (E.blk n) (E.sh n + off) (E.bsz n)
        refine ⟨.slice (some ⟨E.blk n, E.sh n + off, none⟩) (len + m) k, w', E.add S.next (E.blk n) (E.sh n + off) (E.bsz n), inPlace _ _ _ hle w' ?_, ?_, ?_⟩
        · simp only [add_mk]; exact hst
        · simp only [VR]
          exact ⟨a1, k, by rw [a2, a3]; simp, hle, by rw [a3, a4]; simpa using hrm, fun k' hk => by cases hk⟩
        · obtain ⟨bk, hbk, hbm, hbt⟩ := cellsOf_some hc
          have hty : (typed S n elem && off.beq 0) = true → el = elem ∧ E.sh n = 0 ∧ off = 0 := by
            intro ht
            rw [Bool.and_eq_true, nbeq_iff] at ht
            obtain ⟨ht, h0⟩ := ht
            unfold typed at ht
            rw [hbk] at ht
            rcases hbt with rfl | ⟨tt, rfl⟩
            · cases ht
            · have ht : tt = elem := nbeq_iff.1 ht
              obtain ⟨_, o, ho', hb⟩ := hr.blk n _ hbk
              simp only [BR] at hb
              obtain ⟨arr', fz', rfl, hsh, _⟩ := hb
              rw [hw] at ho'
              cases ho'
              exact ⟨ht, hsh, h0⟩
          refine Tran.rename (b' := rowB (typed S n elem && off.beq 0) elem ((c.drop off).take (len * g.size) ++ new)) hr pr hx0 hbk hbm hheap henv (fun m => ?_) ?_
          · simp only [newB, Tr.get_put, Tr.get_del]
          · have key : E.bsz n = (overArr arr (E.sh n + off + len * g.size + 0) us.toList).size ∧ (∀ i, i < (overArr arr (E.sh n + off + len * g.size + 0) us.toList).size → (decide (fz.1 ≤ i) && decide (i < fz.2)) = false) ∧
                VRP (E.add S.next (E.blk n) (E.sh n + off) (E.bsz n)) ((c.drop off).take (len * g.size) ++ new) ((overArr arr (E.sh n + off + len * g.size + 0) us.toList).toList.drop (E.sh n + off)) := ?_
            · obtain ⟨k1, k2, k3⟩ := key
              cases hb : (typed S n elem && off.beq 0)
              · exact ⟨_, el, fz, rfl, by rw [a4]; exact k1, k2, by rw [a3]; exact k3⟩
              · obtain ⟨rfl, h1, h2⟩ := hty hb
                exact ⟨_, fz, rfl, by rw [a3, h1, h2], by rw [a4]; exact k1, k2, by rw [a3]; exact k3⟩
            refine ⟨?_, ?_, ?_⟩
            · rw [overArr_size _ _ _ (by omega)]; exact hs
            · rw [overArr_size _ _ _ (by omega)]; exact hf
            · have hvl := hv.len
              have e1 : (overArr arr (E.sh n + off + len * g.size + 0) us.toList).toList.drop (E.sh n + off) =
                  (arr.toList.drop (E.sh n + off)).take (len * g.size) ++ us.toList ++ arr.toList.drop (E.sh n + off + len * g.size + us.toList.length) := by
                unfold overArr
                simp only [Nat.add_zero, List.append_assoc]
                rw [List.drop_append_of_le_length (by simp; simp at hroom2; omega), List.drop_take]
                congr 2
                omega
              rw [e1]
              refine VRP.mono ext _ _ (VRP.more (VRP.append ?_ ?_ hrel))
              · rw [← List.drop_drop]
                exact VRP.takeR _ (VRP.take _ (VRP.drop _ hv)) (by rw [hol]; exact Nat.le_refl _)
              · rw [hol]; simp; simp at hroom2; omega
      · exact made _ _ _ _ old oldv { S with heap := S.heap.del n } rfl hsub hx0 (by omega) hroom h1 h2 h3 h4
  · cases h

end
end Go.Eng
