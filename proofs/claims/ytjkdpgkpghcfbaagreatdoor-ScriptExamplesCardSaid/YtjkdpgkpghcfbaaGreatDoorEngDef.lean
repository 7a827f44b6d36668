/-
  The engine's definitions: a deterministic abstract interpreter of the model's code.
-/
import GoSem.Step
import Derived.Calls
set_option linter.unusedSimpArgs false
set_option linter.unusedVariables false
namespace Go.Eng
/-- an equation that holds by computation, but that simp is to cite -/
theorem nrf {α : Type} {a b : α} (h : a = b) : a = b := h

noncomputable def _root_.Option.ob {α β : Type} (x : Option α) (f : α → Option β) : Option β := Option.rec (motive := fun _ => Option β) none f x
theorem ob_eq {α β : Type} (x : Option α) (f : α → Option β) : x.ob f = x.bind f := by cases x <;> rfl
theorem ob_some {α β : Type} {x : Option α} {f : α → Option β} {b : β} : x.ob f = some b ↔ ∃ a, x = some a ∧ f a = some b := by cases x <;> simp [Option.ob]
/-- the two parts at once: nothing is left to be taken apart later -/
noncomputable def _root_.Option.o2 {α β γ : Type} (x : Option (α × β)) (f : α → β → Option γ) : Option γ := Option.rec (motive := fun _ => Option γ) none (fun p => Prod.rec (motive := fun _ => Option γ) f p) x
theorem o2_eq {α β γ : Type} (x : Option (α × β)) (f : α → β → Option γ) : x.o2 f = x.ob fun r => f r.1 r.2 := by cases x <;> rfl
noncomputable def on3 {α β γ δ : Type} (f : α → β → γ → δ) (r : α × β × γ) : δ := Prod.rec (motive := fun _ => δ) (fun x q => Prod.rec (motive := fun _ => δ) (fun y z => f x y z) q) r
theorem on3_eq {α β γ δ : Type} (f : α → β → γ → δ) (r : α × β × γ) : on3 f r = f r.1 r.2.1 r.2.2 := rfl
noncomputable def bc {α : Type} (b : Bool) (x y : α) : α := Bool.rec (motive := fun _ => α) y x b
theorem bc_true {α : Type} (x y : α) : bc true x y = x := rfl
theorem bc_false {α : Type} (x y : α) : bc false x y = y := rfl

/-- Abstract values. 'mp', 'ms', 'map', 'pa' (an array that is built as a row): into a mutable block, by its name; 'fp', 'fs': into memory that nobody writes any more. -/
inductive AV where
  | bool (b : Bool)
  | int (k : IntKind) (n : Int)
  | str (s : ByteArray)
  | nilp
  | mp (n off : Nat)
  | pa (n len z : Nat)
  | fp (cs : List AV)
  | nils
  | ms (n off len : Nat) (cap : Option Nat) (z : Nat)
  | fs (cs : List AV) (len : Nat)
  | nilm
  | map (n : Nat)
  | nilf
  | func (f : FuncId) (first captured : List AV)
  | nili
  | iface (t : TypeId) (v : AV)
  | agg (cs : List AV)
  | tup (vs : List AV)
  /-- a fixed address -/
  | adr (b o : Nat)

/-- Finite maps from numbers: a number is a way down a binary tree. -/
inductive Tr (α : Type) where
  | lf
  | nd (l : Tr α) (v : Option α) (r : Tr α)

theorem nbeq_false {a b : Nat} (h : a ≠ b) : a.beq b = false := by
  cases hb : a.beq b with
  | false => rfl
  | true => exact absurd (Nat.eq_of_beq_eq_true hb) h
theorem nbeq_iff {a b : Nat} : a.beq b = true ↔ a = b := ⟨Nat.eq_of_beq_eq_true, fun h => by subst h; exact Nat.beq_refl a⟩
theorem nble_iff {a b : Nat} : Nat.ble a b = true ↔ a ≤ b := ⟨Nat.le_of_ble_eq_true, Nat.ble_eq_true_of_le⟩
theorem nblt_iff {a b : Nat} : Nat.blt a b = true ↔ a < b := by unfold Nat.blt; rw [nble_iff]; omega

noncomputable def pathF (f : Nat) : Nat → List Bool :=
  Nat.rec (motive := fun _ => Nat → List Bool) (fun _ => [])
    (fun _ ih n => bif n.beq 0 then [] else bif (Nat.mod n 2).beq 1 then true :: ih (Nat.div n 2) else false :: ih (Nat.sub (Nat.div n 2) 1)) f

noncomputable def pathOf (n : Nat) : List Bool := pathF n n

theorem pathF_inj : ∀ (f g n m : Nat), n ≤ f → m ≤ g → pathF f n = pathF g m → n = m
  | 0, 0, n, m, h1, h2, _ => by omega
  | 0, g + 1, n, m, h1, h2, h => by
    obtain rfl : n = 0 := by omega
    change [] = (bif m.beq 0 then [] else bif (Nat.mod m 2).beq 1 then true :: pathF g (Nat.div m 2) else false :: pathF g (Nat.sub (Nat.div m 2) 1)) at h
    by_cases hm : m = 0
    · exact hm.symm
    · rw [nbeq_false hm] at h
      cases hb : (Nat.mod m 2).beq 1 <;> rw [hb] at h <;> cases h
  | f + 1, 0, n, m, h1, h2, h => by
    obtain rfl : m = 0 := by omega
    change (bif n.beq 0 then [] else bif (Nat.mod n 2).beq 1 then true :: pathF f (Nat.div n 2) else false :: pathF f (Nat.sub (Nat.div n 2) 1)) = [] at h
    by_cases hm : n = 0
    · exact hm
    · rw [nbeq_false hm] at h
      cases hb : (Nat.mod n 2).beq 1 <;> rw [hb] at h <;> cases h
  | f + 1, g + 1, n, m, h1, h2, h => by
    change (bif n.beq 0 then [] else bif (Nat.mod n 2).beq 1 then true :: pathF f (Nat.div n 2) else false :: pathF f (Nat.sub (Nat.div n 2) 1)) =
      (bif m.beq 0 then [] else bif (Nat.mod m 2).beq 1 then true :: pathF g (Nat.div m 2) else false :: pathF g (Nat.sub (Nat.div m 2) 1)) at h
    have e1 : Nat.mod n 2 = n % 2 := rfl
    have e2 : Nat.mod m 2 = m % 2 := rfl
    have e3 : Nat.div n 2 = n / 2 := rfl
    have e4 : Nat.div m 2 = m / 2 := rfl
    have e5 : ∀ k : Nat, Nat.sub k 1 = k - 1 := fun _ => rfl
    by_cases hn : n = 0 <;> by_cases hm : m = 0
    · omega
    · rw [nbeq_false hm] at h; subst hn
      cases hb : (Nat.mod m 2).beq 1 <;> rw [hb] at h <;> cases h
    · rw [nbeq_false hn] at h; subst hm
      cases hb : (Nat.mod n 2).beq 1 <;> rw [hb] at h <;> cases h
    · rw [nbeq_false hn, nbeq_false hm] at h
      cases hb : (Nat.mod n 2).beq 1 <;> cases hc : (Nat.mod m 2).beq 1 <;> rw [hb, hc] at h
      · have := pathF_inj f g _ _ (by rw [e5, e3]; omega) (by rw [e5, e4]; omega) (List.cons.inj h).2
        rw [e5, e5, e3, e4] at this
        have b1 : n % 2 ≠ 1 := fun h => by rw [e1, h] at hb; cases hb
        have b2 : m % 2 ≠ 1 := fun h => by rw [e2, h] at hc; cases hc
        omega
      · cases (List.cons.inj h).1
      · cases (List.cons.inj h).1
      · have := pathF_inj f g _ _ (by rw [e3]; omega) (by rw [e4]; omega) (List.cons.inj h).2
        rw [e3, e4] at this
        rw [nbeq_iff, e1] at hb
        rw [nbeq_iff, e2] at hc
        omega

theorem pathOf_inj {n m : Nat} (h : pathOf n = pathOf m) : n = m := pathF_inj n m n m (Nat.le_refl _) (Nat.le_refl _) h

structure GP (α : Type) where
  g : Tr α → Option α
structure SP (α : Type) where
  s : Option α → Tr α → Tr α

noncomputable def gp {α : Type} (p : List Bool) : GP α :=
  List.rec (motive := fun _ => GP α) ⟨fun t => Tr.rec (motive := fun _ => Option α) none (fun _ v _ _ _ => v) t⟩
    (fun b _ ih => Bool.rec (motive := fun _ => GP α) ⟨fun t => Tr.rec (motive := fun _ => Option α) none (fun _ _ r _ _ => ih.g r) t⟩
      ⟨fun t => Tr.rec (motive := fun _ => Option α) none (fun l _ _ _ _ => ih.g l) t⟩ b) p

noncomputable def Tr.getP {α : Type} (p : List Bool) (t : Tr α) : Option α := (gp p).g t

noncomputable def Tr.L {α : Type} (t : Tr α) (v : Option α) (r : Tr α) : Tr α := Tr.rec (motive := fun _ => Tr α) (.nd .lf v r) (fun a b c _ _ => .nd (.nd a b c) v r) t
noncomputable def Tr.R {α : Type} (l : Tr α) (v : Option α) (t : Tr α) : Tr α := Tr.rec (motive := fun _ => Tr α) (.nd l v .lf) (fun a b c _ _ => .nd l v (.nd a b c)) t

noncomputable def sp {α : Type} (p : List Bool) : SP α :=
  List.rec (motive := fun _ => SP α) ⟨fun x t => Tr.rec (motive := fun _ => Tr α) (.nd .lf x .lf) (fun l _ r _ _ => .nd l x r) t⟩
    (fun b _ ih => Bool.rec (motive := fun _ => SP α)
      ⟨fun x t => Tr.rec (motive := fun _ => Tr α) (Tr.R .lf none (ih.s x .lf)) (fun l v r _ _ => Tr.R l v (ih.s x r)) t⟩
      ⟨fun x t => Tr.rec (motive := fun _ => Tr α) (Tr.L (ih.s x .lf) none .lf) (fun l v r _ _ => Tr.L (ih.s x l) v r) t⟩ b) p

noncomputable def Tr.setP {α : Type} (x : Option α) (p : List Bool) (t : Tr α) : Tr α := (sp p).s x t

noncomputable def Tr.get {α : Type} (t : Tr α) (n : Nat) : Option α := t.getP (pathOf n)
noncomputable def Tr.put {α : Type} (t : Tr α) (n : Nat) (x : α) : Tr α := t.setP (some x) (pathOf n)
noncomputable def Tr.del {α : Type} (t : Tr α) (n : Nat) : Tr α := t.setP none (pathOf n)

theorem Tr.L_eq {α : Type} (t : Tr α) (v : Option α) (r : Tr α) : Tr.L t v r = .nd t v r := by cases t <;> rfl
theorem Tr.R_eq {α : Type} (t : Tr α) (v : Option α) (r : Tr α) : Tr.R r v t = .nd r v t := by cases t <;> rfl

theorem Tr.getP_lf {α : Type} (p : List Bool) : Tr.getP p (Tr.lf : Tr α) = none := by cases p with
  | nil => rfl
  | cons b p => cases b <;> rfl

theorem Tr.getP_setP {α : Type} (x : Option α) : ∀ (p q : List Bool) (t : Tr α), Tr.getP q (t.setP x p) = if q = p then x else t.getP q
  | [], [], t => by cases t <;> rfl
  | [], c :: q, t => by
    rw [if_neg (by simp)]
    cases t with
    | lf => cases c <;> exact Tr.getP_lf q
    | nd l v r => cases c <;> rfl
  | b :: p, [], t => by
    rw [if_neg (by simp)]
    cases t <;> cases b
    · show Tr.getP [] (Tr.R .lf none (Tr.setP x p .lf)) = _
      rw [Tr.R_eq]; rfl
    · show Tr.getP [] (Tr.L (Tr.setP x p .lf) none .lf) = _
      rw [Tr.L_eq]; rfl
    · rename_i l v r
      show Tr.getP [] (Tr.R l v (Tr.setP x p r)) = _
      rw [Tr.R_eq]; rfl
    · rename_i l v r
      show Tr.getP [] (Tr.L (Tr.setP x p l) v r) = _
      rw [Tr.L_eq]; rfl
  | b :: p, c :: q, t => by
    have ih := fun t => Tr.getP_setP x p q t
    by_cases hb : c = b
    · subst hb
      have e : (c :: q = c :: p) = (q = p) := by simp
      simp only [e]
      cases t with
      | lf =>
        have := ih .lf
        rw [Tr.getP_lf] at this
        cases c
        · show Tr.getP (false :: q) (Tr.R .lf none (Tr.setP x p .lf)) = _
          rw [Tr.R_eq, Tr.getP_lf]; exact this
        · show Tr.getP (true :: q) (Tr.L (Tr.setP x p .lf) none .lf) = _
          rw [Tr.L_eq, Tr.getP_lf]; exact this
      | nd l v r =>
        cases c
        · show Tr.getP (false :: q) (Tr.R l v (Tr.setP x p r)) = _
          rw [Tr.R_eq]; exact ih r
        · show Tr.getP (true :: q) (Tr.L (Tr.setP x p l) v r) = _
          rw [Tr.L_eq]; exact ih l
    · rw [if_neg (by simp [hb])]
      cases t with
      | lf =>
        cases b <;> cases c <;> first | exact absurd rfl hb | skip
        · show Tr.getP (true :: q) (Tr.R .lf none (Tr.setP x p .lf)) = _
          rw [Tr.R_eq]; exact Tr.getP_lf q
        · show Tr.getP (false :: q) (Tr.L (Tr.setP x p .lf) none .lf) = _
          rw [Tr.L_eq]; exact Tr.getP_lf q
      | nd l v r =>
        cases b <;> cases c <;> first | exact absurd rfl hb | skip
        · show Tr.getP (true :: q) (Tr.R l v (Tr.setP x p r)) = _
          rw [Tr.R_eq]; rfl
        · show Tr.getP (false :: q) (Tr.L (Tr.setP x p l) v r) = _
          rw [Tr.L_eq]; rfl

theorem Tr.get_put {α : Type} (t : Tr α) (n m : Nat) (x : α) : (t.put n x).get m = if m = n then some x else t.get m := by
  unfold Tr.get Tr.put
  rw [Tr.getP_setP]
  by_cases h : m = n
  · subst h; simp
  · rw [if_neg h, if_neg (fun e => h (pathOf_inj e))]
theorem Tr.get_del {α : Type} (t : Tr α) (n m : Nat) : (t.del n).get m = if m = n then none else t.get m := by
  unfold Tr.get Tr.del
  rw [Tr.getP_setP]
  by_cases h : m = n
  · subst h; simp
  · rw [if_neg h, if_neg (fun e => h (pathOf_inj e))]
@[simp] theorem Tr.get_lf {α : Type} (m : Nat) : (Tr.lf : Tr α).get m = none := Tr.getP_lf _
@[simp] theorem Tr.get_put_same {α : Type} (t : Tr α) (n : Nat) (x : α) : (t.put n x).get n = some x := by simp [Tr.get_put]
theorem Tr.get_put_ne {α : Type} (t : Tr α) {n m : Nat} (x : α) (h : m ≠ n) : (t.put n x).get m = t.get m := by simp [Tr.get_put, h]

structure ME where
  key : AV
  val : AV
  born : Nat

inductive AB where
  | cells (cs : List AV)
  | map (es : List ME) (clock : Nat)
  | ice (cs : List AV)
  /-- an iterator over a map: the map, its clock at the start, what came, its clock at the last step -/
  | iter (m : Option Nat) (since : Nat) (seen : List Nat) (last : Nat)
  /-- cells of a block whose element type is known -/
  | tcells (t : TypeId) (cs : List AV)

/-- may the block be written? -/
noncomputable def AB.mut : AB → Bool
  | .ice _ => false
  | _ => true

abbrev Tm := Tr AV

structure St where
  heap : Tr AB
  next : Nat

noncomputable def chk (b : Bool) : Option Unit := bc b (some ()) none

theorem chk_some {b : Bool} {u : Unit} : chk b = some u ↔ b = true := by cases b <;> simp [chk, bc]

/-- one flat constant -/
noncomputable def cv1 : Value → Option AV
  | .bool b => some (.bool b)
  | .int k n => some (.int k n)
  | .string s => some (.str s)
  | .pointer none => some .nilp
  | .slice none 0 0 => some .nils
  | .map none => some .nilm
  | .nilFunc => some .nilf
  | .nilIface => some .nili
  | _ => none

noncomputable def cvs : List Value → Option (List AV)
  | [] => some []
  | v :: vs => (cv1 v).ob fun x => (cvs vs).ob fun xs => some (x :: xs)

noncomputable def cv : Value → Option AV
  | .agg cs => (cvs cs.toList).ob fun xs => some (.agg xs)
  | v => cv1 v

noncomputable def AV.one : AV → Bool
  | .agg _ | .tup _ => false
  | _ => true

noncomputable def AV.cells : AV → List AV
  | .agg cs => cs
  | v => [v]

/-- what the tables say of a type -/
structure TE where
  und : TypeDesc
  size : Nat
  bytes : Nat
  zero : AV

noncomputable def isAggD : TypeDesc → Bool
  | .struct _ | .array _ _ => true
  | _ => false

noncomputable def te (P : Program) (t : TypeId) : Option TE :=
  (P.info? t).ob fun i => (P.underlying t).ob fun d => i.zero.ob fun z => (cv z).ob fun zv =>
    some { und := d, size := i.size, bytes := i.bytes, zero := zv }

noncomputable def sliceOf : TypeDesc → Option TypeId
  | .slice e => some e
  | _ => none
noncomputable def arrayOf : TypeDesc → Option (Nat × TypeId)
  | .array n e => some (n, e)
  | _ => none
noncomputable def structOf : TypeDesc → Option (List Field)
  | .struct fs => some fs.toList
  | _ => none
noncomputable def mapOf : TypeDesc → Option (TypeId × TypeId)
  | .map k e => some (k, e)
  | _ => none

/-- what the address of a package-level variable points at, where nobody writes it any more -/
class Gl where
  g : Nat → Option AV

/-- calls whose results are known: of name-free arguments; stores of values that are frozen first; arrays that are built as rows -/
class Mx where
  x : FuncId → List AV → Option AV
  st : TypeId → Operand → Operand → Bool := fun _ _ _ => false
  ar : TypeId → Bool := fun _ => false
  /-- literals of slices whose parts are frozen first -/
  bt : TypeId → Bool := fun _ => false
  /-- calls some of whose arguments are frozen first -/
  fz : FuncId → Option (Nat → Bool) := fun _ => none
  /-- calls that only borrow their arguments: their results hold no address -/
  ln : FuncId → Bool := fun _ => false
  /-- calls that do nothing to a slice of at most one element, of these types -/
  tn : FuncId → TypeId → Bool := fun _ _ => false
  /-- sort.Slice at a slice of this type: the function that sorts, the literal that swaps, the type of an element -/
  so : FuncId → TypeId → Option (FuncId × FuncId × TypeId) := fun _ _ => none
  /-- the literals that swap -/
  sw : FuncId → Bool := fun _ => false
  /-- rows of these elements keep their type -/
  ty : TypeId → Bool := fun _ => false
  /-- calls that only look: they may take several ways, all of which end alike -/
  ro : FuncId → Bool := fun _ => false
  /-- calls of functions without a body, on arguments without names -/
  ex : FuncId → List AV → Option AV := fun _ _ => none

noncomputable def ev [Gl] (T : Tm) : Operand → Option AV
  | .tmp t => T.get t
  | .const v => cv v
  | .global g => Gl.g g
  | .func f => some (.func f [] [])

noncomputable def evs [Gl] (T : Tm) : List Operand → Option (List AV)
  | [] => some []
  | x :: xs => (ev T x).ob fun v => (evs T xs).ob fun vs => some (v :: vs)

noncomputable def evp [Gl] (T : Tm) : List (Nat × Operand) → Option (List (Nat × AV))
  | [] => some []
  | (i, x) :: xs => (ev T x).ob fun v => (evp T xs).ob fun vs => some ((i, v) :: vs)

noncomputable def newB (S : St) (b : AB) : St := { heap := S.heap.put S.next b, next := S.next + 1 }

noncomputable def cellsOf (S : St) (n : Nat) : Option (List AV) :=
  (S.heap.get n).ob fun b => match b with
  | .cells cs => some cs
  | .tcells _ cs => some cs
  | _ => none
noncomputable def rowB (b : Bool) (t : TypeId) (cs : List AV) : AB := bif b then .tcells t cs else .cells cs
/-- is the block's element type known to be t? -/
noncomputable def typed (S : St) (n : Nat) (t : TypeId) : Bool := match S.heap.get n with
  | some (.tcells u _) => u.beq t
  | _ => false
/-- cells that may be read -/
noncomputable def readOf (S : St) (n : Nat) : Option (List AV) :=
  (S.heap.get n).ob fun b => match b with
  | .cells cs => some cs
  | .ice cs => some cs
  | .tcells _ cs => some cs
  | _ => none
noncomputable def entriesOf (S : St) (n : Nat) : Option (List ME × Nat) :=
  (S.heap.get n).ob fun b => match b with
  | .map es c => some (es, c)
  | _ => none

/-- n cells from off on -/
noncomputable def sub (cs : List AV) (off n : Nat) : Option (List AV) :=
  let r := (cs.drop off).take n
  bc (r.length.beq n) (some r) none

/-- overwrite from the head on -/
noncomputable def over0 : List AV → List AV → Option (List AV)
  | cs, [] => some cs
  | [], _ :: _ => none
  | _ :: cs, x :: xs => (over0 cs xs).ob fun r => some (x :: r)

/-- overwrite from off on -/
noncomputable def over : List AV → Nat → List AV → Option (List AV)
  | cs, 0, xs => over0 cs xs
  | [], _ + 1, _ => none
  | c :: cs, n + 1, xs => (over cs n xs).ob fun r => some (c :: r)

noncomputable def nth (cs : List AV) (n : Nat) : Option AV :=
  List.rec (motive := fun _ => Nat → Option AV) (fun _ => none) (fun c _ ih n => Nat.rec (motive := fun _ => Option AV) (some c) (fun m _ => ih m) n) cs n

theorem nth_eq : ∀ (cs : List AV) (n : Nat), nth cs n = cs[n]?
  | [], _ => rfl
  | _ :: _, 0 => rfl
  | _ :: cs, n + 1 => by rw [List.getElem?_cons_succ, ← nth_eq cs n]; rfl

/-- a variable of a type out of cells -/
noncomputable def partA (e : TE) (cs : List AV) (off : Nat) : Option AV :=
  bc (isAggD e.und) ((sub cs off e.size).ob fun r => some (.agg r)) (nth cs off)

noncomputable def loadA (e : TE) (S : St) : AV → Option AV
  | .mp n off => (readOf S n).ob fun c => partA e c off
  | .fp cs => partA e cs 0
  | _ => none

noncomputable def storeA (e : TE) (S : St) (a v : AV) : Option St :=
  match a with
  | .mp n off => (cellsOf S n).ob fun c => (chk (v.cells.length.beq e.size && v.cells.all AV.one)).ob fun _ =>
      (over c off v.cells).ob fun r => some { S with heap := S.heap.put n (.cells r) }
  | _ => none

noncomputable def fillA (place : Nat → Option (Nat × Nat)) (cells : List AV) : List (Nat × AV) → Option (List AV)
  | [] => some cells
  | (i, v) :: rest => (place i).ob fun p => (chk (v.cells.length.beq p.2)).ob fun _ => (over cells p.1 v.cells).ob fun r => fillA place r rest

noncomputable def placesA (P : Program) : List Field → Option (List (Nat × Nat))
  | [] => some []
  | f :: fs => (te P f.type).ob fun g => (placesA P fs).ob fun r => some ((f.offset, g.size) :: r)

noncomputable def buildA (P : Program) (t : TypeId) (parts : List (Nat × AV)) : Option AV :=
  (te P t).ob fun e => match e.und with
    | .struct fields => (placesA P fields.toList).ob fun ps => (fillA (fun i => ps[i]?) e.zero.cells parts).ob fun r => some (.agg r)
    | .array _ elem => (te P elem).ob fun g => (fillA (fun i => some (i * g.size, g.size)) e.zero.cells parts).ob fun r => some (.agg r)
    | _ => none

noncomputable def repl (zero : List AV) : Nat → List AV
  | 0 => []
  | n + 1 => zero ++ repl zero n

noncomputable def big : Nat := 1099511627776

noncomputable def buildSliceA (P : Program) (S : St) (t : TypeId) (len : Nat) (parts : List (Nat × AV)) : Option (AV × St) :=
  (te P t).ob fun e => (sliceOf e.und).ob fun elem => (te P elem).ob fun g =>
    (chk (Nat.ble (len * g.size) 16777216 && g.zero.cells.length.beq g.size)).ob fun _ =>
      (fillA (fun i => some (i * g.size, g.size)) (repl g.zero.cells len) parts).ob fun r =>
        some (.ms S.next 0 len (some len) g.size, newB S (.cells r))

noncomputable def asI : AV → Option Int
  | .int _ n => some n
  | _ => none

noncomputable def asN : AV → Option Nat
  | .int _ (.ofNat n) => some n
  | _ => none

noncomputable def makeSliceA (P : Program) (S : St) (t : TypeId) (l c : AV) : Option (AV × St) :=
  (asN l).ob fun l => (asN c).ob fun c => (te P t).ob fun e => (sliceOf e.und).ob fun elem => (te P elem).ob fun g =>
    (chk (Nat.ble l c && Nat.ble (g.bytes * c) big && Nat.ble c big && g.zero.cells.length.beq g.size)).ob fun _ =>
      some (.ms S.next 0 l (some c) g.size, newB S (.cells (repl g.zero.cells c)))

/-- an optional bound of a slice expression -/
noncomputable def bnd [Gl] (T : Tm) (x : Option Operand) (d : Nat) : Option Nat :=
  match x with
  | none => some d
  | some o => (ev T o).ob asN

noncomputable def cutMs (n off len : Nat) (z l h : Nat) : Option Nat → Option AV
  | some c => (chk (Nat.ble l h && Nat.ble h c)).ob fun _ => some (.ms n (bc (c.beq l) off (off + l * z)) (h - l) (some (c - l)) z)
  | none => (chk (Nat.ble l h && Nat.ble h len)).ob fun _ =>
      bc (l.beq 0) (some (.ms n off h none z)) (bc (Nat.blt l len) (some (.ms n (off + l * z) (h - l) none z)) (some (.fs [] 0)))

/-- a slice expression with a bound of its capacity, from the start -/
noncomputable def slice3A [Gl] (P : Program) (T : Tm) (t : TypeId) (x : AV) (lo hi : Option Operand) (m : Operand) : Option AV :=
  (te P t).ob fun e => match e.und, x, lo, hi with
    | .slice elem, .nils, none, some hi => (te P elem).ob fun _ => ((ev T hi).ob asN).ob fun h => ((ev T m).ob asN).ob fun m => (chk (Nat.ble h 0 && Nat.ble m 0)).ob fun _ => some .nils
    | .slice elem, .ms n off len _ z, none, some hi => (te P elem).ob fun g => (chk (g.size.beq z)).ob fun _ => ((ev T hi).ob asN).ob fun h => ((ev T m).ob asN).ob fun m =>
        (chk (Nat.ble h m && Nat.ble m len)).ob fun _ => some (.ms n off h (some m) z)
    | _, _, _, _ => none

noncomputable def sliceA [Gl] (P : Program) (T : Tm) (t : TypeId) (x : AV) (lo hi mx : Option Operand) : Option AV := match mx with
  | some m => slice3A P T t x lo hi m
  | none => (te P t).ob fun e => match e.und, x with
    | .string, .str s => (bnd T lo 0).ob fun l => (bnd T hi s.size).ob fun h => (chk (Nat.ble l h && Nat.ble h s.size)).ob fun _ => some (.str (s.extract l h))
    | .slice elem, .nils => (te P elem).ob fun _ => (bnd T lo 0).ob fun l => (bnd T hi 0).ob fun h => (chk (Nat.ble l h && Nat.ble h 0)).ob fun _ => some .nils
    | .slice elem, .ms n off len cap z => (te P elem).ob fun g => (chk (g.size.beq z)).ob fun _ => (bnd T lo 0).ob fun l => (bnd T hi len).ob fun h => cutMs n off len z l h cap
    | .slice elem, .fs cs len => (te P elem).ob fun g => (bnd T lo 0).ob fun l => (bnd T hi len).ob fun h => (chk (Nat.ble l h && Nat.ble h len)).ob fun _ =>
        some (.fs ((cs.drop (l * g.size)).take ((h - l) * g.size)) (h - l))
    | .array m elem, .pa n len z => (te P elem).ob fun g => (chk (g.size.beq z && len.beq m)).ob fun _ => (bnd T lo 0).ob fun l => (bnd T hi len).ob fun h => cutMs n 0 len z l h (some len)
    | _, _ => none

/-- the whole of an array as a slice: of an array in a block as well -/
noncomputable def sliceW [Gl] (P : Program) (S : St) (T : Tm) (t : TypeId) (x : AV) : Option AV := match x with
  | .mp n off => (te P t).ob fun e => match e.und with
    | .array m elem => (te P elem).ob fun g => (cellsOf S n).ob fun cs => (chk (Nat.ble (off + m * g.size) cs.length && (Nat.blt 0 m && Nat.blt 0 cs.length))).ob fun _ => some (.ms n off m (some m) g.size)
    | _ => none
  | x => sliceA P T t x none none none

noncomputable def allN (lo hi mx : Option Operand) : Bool := lo.isNone && (hi.isNone && mx.isNone)
noncomputable def sliceX [Gl] (P : Program) (S : St) (T : Tm) (t : TypeId) (x : AV) (lo hi mx : Option Operand) : Option AV :=
  bif allN lo hi mx then sliceW P S T t x else sliceA P T t x lo hi mx

noncomputable def shiftP (off : Nat) : AV → Option AV
  | .mp n o => some (.mp n (o + off))
  | .fp cs => some (.fp (cs.drop off))
  | .pa n _ _ => some (.mp n off)
  | _ => none

noncomputable def fieldAddrA (P : Program) (s : TypeId) (x : AV) (f : Nat) : Option AV :=
  (te P s).ob fun e => (structOf e.und).ob fun fs => (fs[f]?).ob fun fd => (te P fd.type).ob fun g =>
    (chk (!g.size.beq 0)).ob fun _ => shiftP fd.offset x

noncomputable def fieldA (P : Program) (s : TypeId) (x : AV) (f : Nat) : Option AV :=
  match x with
  | .agg cs => (te P s).ob fun e => (structOf e.und).ob fun fs => (fs[f]?).ob fun fd => (te P fd.type).ob fun g => partA g cs fd.offset
  | _ => none

noncomputable def indexAddrA (P : Program) (t : TypeId) (x ix : AV) : Option AV :=
  (asN ix).ob fun i => (te P t).ob fun e => match e.und, x with
    | .array len elem, x => (te P elem).ob fun g => (chk (Nat.blt i len)).ob fun _ => shiftP (i * g.size) x
    | .slice elem, .ms n off len _ _ => (te P elem).ob fun g => (chk (Nat.blt i len)).ob fun _ => some (.mp n (off + i * g.size))
    | .slice elem, .fs cs len => (te P elem).ob fun g => (chk (Nat.blt i len && !cs.isEmpty)).ob fun _ => some (.fp (cs.drop (i * g.size)))
    | _, _ => none

noncomputable def indexA (P : Program) (t : TypeId) (x ix : AV) : Option AV :=
  (asN ix).ob fun i => (te P t).ob fun e => match e.und, x with
    | .array len elem, .agg cs => (te P elem).ob fun g => (chk (Nat.blt i len)).ob fun _ => partA g cs (i * g.size)
    | .string, .str s => (s[i]?).ob fun b => some (.int .u8 b.toNat)
    | _, _ => none

noncomputable def isConstO : Operand → Bool
  | .const _ => true
  | _ => false

noncomputable def bitsA (k : IntKind) (r : BitVec k.bits) : AV := .int k (k.wrap r.toNat)

noncomputable def intBinA (op : BinOp) (k : IntKind) (a b : Int) : Option AV :=
  match op with
  | .add => some (.int k (k.wrap (a + b)))
  | .sub => some (.int k (k.wrap (a - b)))
  | .mul => some (.int k (k.wrap (a * b)))
  | .quo => if b = 0 then none else some (.int k (k.wrap (a.tdiv b)))
  | .rem => if b = 0 then none else some (.int k (a.tmod b))
  | .and => some (bitsA k (BitVec.ofInt k.bits a &&& BitVec.ofInt k.bits b))
  | .or => some (bitsA k (BitVec.ofInt k.bits a ||| BitVec.ofInt k.bits b))
  | .xor => some (bitsA k (BitVec.ofInt k.bits a ^^^ BitVec.ofInt k.bits b))
  | .andNot => some (bitsA k (BitVec.ofInt k.bits a &&& ~~~ BitVec.ofInt k.bits b))
  | .eql => some (.bool (a == b))
  | .neq => some (.bool (a != b))
  | .lss => some (.bool (a < b))
  | .leq => some (.bool (a ≤ b))
  | .gtr => some (.bool (a > b))
  | .geq => some (.bool (a ≥ b))
  | .shl | .shr => none

noncomputable def shiftA (op : BinOp) (k : IntKind) (a b : Int) : Option AV :=
  if b < 0 then none else
  match op with
  | .shl => some (.int k (k.wrap (a * 2 ^ (min b.toNat k.bits))))
  | .shr => some (.int k (a.fdiv (2 ^ (min b.toNat k.bits))))
  | _ => none

noncomputable def strBinA (op : BinOp) (x y : ByteArray) : Option AV :=
  match op with
  | .add => if x.size + y.size ≤ big then some (.str (x ++ y)) else none
  | .eql => some (.bool (x.toList == y.toList))
  | .neq => some (.bool !(x.toList == y.toList))
  | .lss => some (.bool (Op.bytesLess x.toList y.toList))
  | .leq => some (.bool (Op.bytesLess x.toList y.toList || x.toList == y.toList))
  | .gtr => some (.bool !(Op.bytesLess x.toList y.toList || x.toList == y.toList))
  | .geq => some (.bool !(Op.bytesLess x.toList y.toList))
  | _ => none

/-- '==' where one side is nil, or both are bools -/
noncomputable def eqA (d : TypeDesc) (konst : Bool) : AV → AV → Option Bool
  | .bool p, .bool q => match d with | .bool => some (p == q) | _ => none
  | .nilp, y => match d, y with
    | .pointer _, .nilp => some true
    | .pointer _, .mp .. | .pointer _, .fp .. => some false
    | _, _ => none
  | x, .nilp => match d, x with
    | .pointer _, .mp .. | .pointer _, .fp .. => some false
    | _, _ => none
  | .nils, y => match d, y with
    | .slice _, .nils => some true
    | .slice _, .ms .. | .slice _, .fs _ (_ + 1) => some false
    | _, _ => none
  | x, .nils => match d, x with
    | .slice _, .ms .. | .slice _, .fs _ (_ + 1) => some false
    | _, _ => none
  | .nili, y => match d, y with
    | .interface _, .nili => bif konst then some true else none
    | .interface _, .iface .. => some false
    | _, _ => none
  | x, .nili => match d, x with
    | .interface _, .iface .. => some false
    | _, _ => none
  | _, _ => none

noncomputable def ints2 : List AV → Option (IntKind × Int × IntKind × Int)
  | [.int k a, .int j b] => some (k, a, j, b)
  | _ => none
/-- '==' of two arrays of two integers -/
noncomputable def arr2A (P : Program) (t : TypeId) (xs ys : List AV) : Option Bool := (te P t).ob fun e => match e.und with
  | .array n el => (chk (n.beq 2)).ob fun _ => (te P el).ob fun g => match g.und with
    | .int _ => (chk (g.size.beq 1)).ob fun _ => (ints2 xs).ob fun p => (ints2 ys).ob fun q => (chk (decide (p.1 = q.1) && decide (p.2.2.1 = q.2.2.1))).ob fun _ => some (p.2.1 == q.2.1 && p.2.2.2 == q.2.2.2)
    | _ => none
  | _ => none

/-- '==' of two structs whose parts are bools, integers and such structs -/
noncomputable def eqFs (P : Program) (g : TypeId → AV → AV → Option Bool) (xs ys : List AV) : List Field → Option Bool
  | [] => some true
  | f :: fs => bif decide (f.name = "_") then none else (te P f.type).ob fun e => (partA e xs f.offset).ob fun a => (partA e ys f.offset).ob fun b => (g f.type a b).ob fun r =>
      (eqFs P g xs ys fs).ob fun q => some (r && q)
noncomputable def eqS (P : Program) : Nat → TypeId → AV → AV → Option Bool
  | 0, _, _, _ => none
  | d + 1, t, x, y => (te P t).ob fun e => match e.und, x, y with
    | .bool, .bool a, .bool b => some (a == b)
    | .int _, .int k a, .int k' b => (chk (decide (k = k'))).ob fun _ => some (a == b)
    | .struct fs, .agg xs, .agg ys => (chk (!P.stoodInHeld t)).ob fun _ => eqFs P (eqS P d) xs ys fs.toList
    | _, _, _ => none
noncomputable def aggA (P : Program) (t : TypeId) (xs ys : List AV) : Option Bool := match arr2A P t xs ys with
  | some r => some r
  | none => eqS P 10 t (.agg xs) (.agg ys)

/-- '==' of a pointer and itself -/
noncomputable def samePA (P : Program) (t : TypeId) (n o n' o' : Nat) : Option Bool := (te P t).ob fun e => match e.und with
  | .pointer el => (te P el).ob fun _ => (chk (n.beq n' && o.beq o')).ob fun _ => some true
  | _ => none
noncomputable def binA (P : Program) (op : BinOp) (t : TypeId) (x y : Operand) (a b : AV) : Option AV :=
  match a, b with
  | .agg xs, .agg ys => match op with
    | .eql => (aggA P t xs ys).ob fun r => some (.bool r)
    | .neq => (aggA P t xs ys).ob fun r => some (.bool !r)
    | _ => none
  | .int k m, .int k' n => match op with
    | .shl | .shr => shiftA op k m n
    | _ => if k = k' then intBinA op k m n else none
  | .str m, .str n => strBinA op m n
  | .mp n o, .mp n' o' => match op with
    | .eql => (samePA P t n o n' o').ob fun r => some (.bool r)
    | .neq => (samePA P t n o n' o').ob fun r => some (.bool !r)
    | _ => none
  | a, b => match op with
    | .eql => (te P t).ob fun e => (eqA e.und (isConstO x || isConstO y) a b).ob fun r => some (.bool r)
    | .neq => (te P t).ob fun e => (eqA e.und (isConstO x || isConstO y) a b).ob fun r => some (.bool !r)
    | _ => none

noncomputable def unA (op : UnOp) (x : AV) : Option AV :=
  match op, x with
  | .neg, .int k n => some (.int k (k.wrap (0 - n)))
  | .xor, .int k n => some (bitsA k (BitVec.ofInt k.bits (if k.signed then -1 else k.max) ^^^ BitVec.ofInt k.bits n))
  | .not, .bool b => some (.bool !b)
  | _, _ => none

noncomputable def bytesOfA : List AV → Option (List UInt8)
  | [] => some []
  | .int .u8 n :: r => (bytesOfA r).ob fun bs => some (UInt8.ofNat n.toNat :: bs)
  | _ => none

/-- all the cells that a slice or a string gives -/
noncomputable def srcA (S : St) (size : Nat) : AV → Option (List AV)
  | .str s => (chk (size.beq 1)).ob fun _ => some (s.data.toList.map fun b => .int .u8 b.toNat)
  | .nils => some []
  | .ms b off len _ _ => (readOf S b).ob fun c => sub c off (len * size)
  | .fs cs len => sub cs 0 (len * size)
  | _ => none

noncomputable def lenOfA : AV → Option Nat
  | .nils => some 0
  | .ms _ _ len _ _ => some len
  | .fs _ len => some len
  | .str s => some s.size
  | _ => none

/-- a pointer seen as an unsafe pointer, and back -/
noncomputable def convU (P : Program) (S : St) (s d : TypeDesc) (x : AV) : Option AV := match s, d, x with
  | .pointer t, .unsafePointer, .mp n off => (te P t).ob fun g => (readOf S n).ob fun cs => (chk (!g.size.beq 0 && Nat.blt off cs.length)).ob fun _ => some (.mp n off)
  | .unsafePointer, .pointer u, .mp n off => (te P u).ob fun _ => (cellsOf S n).ob fun cs => (chk (off.beq 0 && typed S n u && Nat.blt 0 (P.cellsOf u) && Nat.ble (P.cellsOf u) cs.length)).ob fun _ => some (.mp n 0)
  | _, _, _ => none
noncomputable def convA (P : Program) (S : St) (src dst : TypeId) (x : AV) : Option AV :=
  (te P src).ob fun s => (te P dst).ob fun d => match s.und, d.und, x with
    | .int _, .int k, .int _ n => some (.int k (k.wrap n))
    | .string, .string, .str b => some (.str b)
    | .slice e, .string, x => (te P e).ob fun g => match g.und, x with
      | .int .u8, .nils => some (.str ByteArray.empty)
      | .int .u8, .ms b off len c z => (srcA S 1 (.ms b off len c z)).ob fun cs => (bytesOfA cs).ob fun bs => some (.str ⟨bs.toArray⟩)
      | .int .u8, .fs cs len => (srcA S 1 (.fs cs len)).ob fun cs => (bytesOfA cs).ob fun bs => some (.str ⟨bs.toArray⟩)
      | _, _ => none
    | s, d, x => convU P S s d x

noncomputable def lenA (P : Program) (S : St) (t : TypeId) (x : AV) : Option AV :=
  (te P t).ob fun e => match e.und, x with
    | .string, .str s => some (.int .i64 s.size)
    | .array n _, _ => some (.int .i64 n)
    | .slice _, .nils => some (.int .i64 0)
    | .slice _, .ms _ _ len _ _ => some (.int .i64 len)
    | .slice _, .fs _ len => some (.int .i64 len)
    | .map _ _, .nilm => some (.int .i64 0)
    | .map _ _, .map n => (entriesOf S n).ob fun c => some (.int .i64 c.1.length)
    | _, _ => none

noncomputable def roomOk (need bytes : Nat) : Bool := Nat.ble need big && Nat.ble (need * bytes) big

/-- append to a slice: where its capacity is known it is written in place or copied; else its block is given up and a new name holds the result. -/
noncomputable def growA [Mx] (S : St) (el : TypeId) (g : TE) (new : List AV) (m : Nat) : AV → Option (AV × St)
  | .nils => bc (m.beq 0) (some (.nils, S)) ((chk (roomOk m g.bytes)).ob fun _ => some (.ms S.next 0 m none g.size, newB S (rowB (Mx.ty el) el new)))
  | .ms n off len cap z => (cellsOf S n).ob fun c => (chk (z.beq g.size && roomOk (len + m) g.bytes)).ob fun _ => match cap with
    | some k => bc (Nat.ble (len + m) k)
      ((over c (off + len * g.size) new).ob fun r => some (.ms n off (len + m) (some k) z, { S with heap := S.heap.put n (.cells r) }))
      ((sub c off (len * g.size)).ob fun old => some (.ms S.next 0 (len + m) none g.size, newB S (rowB (Mx.ty el) el (old ++ new))))
    | none => (sub c off (len * g.size)).ob fun old => some (.ms S.next 0 (len + m) none g.size, newB { S with heap := S.heap.del n } (rowB (typed S n el && off.beq 0) el (old ++ new)))
  | _ => none

end Go.Eng
