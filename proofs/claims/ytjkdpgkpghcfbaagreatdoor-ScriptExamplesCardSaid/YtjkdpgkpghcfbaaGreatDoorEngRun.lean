/-
  The engine's definitions, part two: operations, regions, code, calls.
-/
import Derived.Test.YtjkdpgkpghcfbaaGreatDoorEngDef
import Derived.Orders
set_option linter.unusedSimpArgs false
set_option linter.unusedVariables false
namespace Go.Eng

mutual
noncomputable def same : AV → AV → Bool
  | .bool a, .bool b => a == b
  | .int k a, .int k' b => decide (k = k') && decide (a = b)
  | .str a, .str b => decide (a = b)
  | .nilp, .nilp => true
  | .mp n o, .mp n' o' => n.beq n' && o.beq o'
  | .pa n l z, .pa n' l' z' => n.beq n' && l.beq l' && z.beq z'
  | .fp a, .fp b => sames a b
  | .nils, .nils => true
  | .ms n o l c z, .ms n' o' l' c' z' => n.beq n' && o.beq o' && l.beq l' && decide (c = c') && z.beq z'
  | .fs a l, .fs b m => l.beq m && sames a b
  | .nilm, .nilm => true
  | .map n, .map m => n.beq m
  | .nilf, .nilf => true
  | .func f a c, .func g b d => f.beq g && sames a b && sames c d
  | .nili, .nili => true
  | .iface t x, .iface u y => t.beq u && same x y
  | .agg a, .agg b => sames a b
  | .tup a, .tup b => sames a b
  | .adr a b, .adr c d => a.beq c && b.beq d
  | _, _ => false
noncomputable def sames : List AV → List AV → Bool
  | [], [] => true
  | x :: xs, y :: ys => same x y && sames xs ys
  | _, _ => false
end

/-- a flat integer -/
noncomputable def isInt : AV → Bool
  | .int _ _ => true
  | _ => false
/-! maps with keys that are integers, strings or structs of integers -/
noncomputable def intF (P : Program) (i : Nat) (f : Field) : Bool := f.offset.beq i && !decide (f.name = "_") && (match te P f.type with
  | some e => (match e.und with
    | .int _ => true
    | _ => false)
  | none => false)
/-- a struct of two integers -/
noncomputable def twoI (P : Program) (t : TypeId) (fs : List Field) : Bool := (match fs with
  | [f, g] => intF P 0 f && intF P 1 g
  | _ => false) && !P.stoodInHeld t

noncomputable def sameK : TypeDesc → AV → AV → Option Bool
  | .int _, .int j a, .int j' b => if j = j' then some (a == b) else none
  | .string, .str a, .str b => some (a == b)
  | .struct _, .agg [.int j a, .int l b], .agg [.int j' a', .int l' b'] => if j = j' ∧ l = l' then some (a == a' && b == b') else none
  | _, _, _ => none

noncomputable def keyOk (P : Program) (t : TypeId) : TypeDesc → AV → Bool
  | .int _, .int _ _ => true
  | .string, .str _ => true
  | .struct fs, .agg [.int _ _, .int _ _] => twoI P t fs.toList
  | _, _ => false

noncomputable def findE (d : TypeDesc) (k : AV) : List ME → Nat → Option (Option (Nat × AV))
  | [], _ => some none
  | e :: es, i => (sameK d k e.key).ob fun b => bif b then some (some (i, e.val)) else findE d k es (i + 1)

noncomputable def lookupA (P : Program) (S : St) (t : TypeId) (x k : AV) (ok : Bool) : Option AV :=
  (te P t).ob fun e => (mapOf e.und).ob fun ke => (te P ke.1).ob fun kt => (te P ke.2).ob fun et => (chk (keyOk P ke.1 kt.und k)).ob fun _ =>
    (match x with
      | .nilm => some []
      | .map n => (entriesOf S n).ob fun c => some c.1
      | _ => none : Option (List ME)).ob fun es =>
    (findE kt.und k es 0).ob fun r => match r with
      | some (_, v) => some (bif ok then .tup [v, .bool true] else v)
      | none => some (bif ok then .tup [et.zero, .bool false] else et.zero)

noncomputable def mapUpdA (P : Program) (S : St) (t : TypeId) (x k v : AV) : Option St :=
  (te P t).ob fun e => (mapOf e.und).ob fun ke => (te P ke.1).ob fun kt => (chk (keyOk P ke.1 kt.und k)).ob fun _ =>
    match x with
    | .map n => (entriesOf S n).ob fun c => (findE kt.und k c.1 0).ob fun r => match r with
      | some (i, _) => some { S with heap := S.heap.put n (.map (c.1.modify i fun e => { e with key := k, val := v }) c.2) }
      | none => some { S with heap := S.heap.put n (.map (c.1 ++ [⟨k, v, c.2⟩]) (c.2 + 1)) }
    | _ => none

noncomputable def mapEntA (P : Program) (S : St) (t : TypeId) (x k : AV) : Option (AV × St) :=
  (te P t).ob fun e => (mapOf e.und).ob fun ke => (te P ke.1).ob fun kt => (te P ke.2).ob fun et => (chk (keyOk P ke.1 kt.und k)).ob fun _ =>
    match x with
    | .map n => (entriesOf S n).ob fun c => (findE kt.und k c.1 0).ob fun r => match r with
      | some (i, v) => some (.tup [v, .int .i64 (((c.1[i]?).map (·.born)).getD 0)], { S with heap := S.heap.put n (.map (c.1.modify i fun e => { e with key := k }) c.2) })
      | none => some (.tup [et.zero, .int .i64 c.2], { S with heap := S.heap.put n (.map (c.1 ++ [⟨k, et.zero, c.2⟩]) (c.2 + 1)) })
    | _ => none

noncomputable def entStA (S : St) (x st v : AV) : Option St :=
  match x, st with
  | .map n, .int _ b => (entriesOf S n).ob fun c => (c.1.findIdx? fun e => (e.born : Int) == b).ob fun i =>
      some { S with heap := S.heap.put n (.map (c.1.modify i fun e => { e with val := v }) c.2) }
  | _, _ => none

noncomputable def maxL (k : IntKind) (x : Int) : List AV → Option AV
  | [] => some (.int k x)
  | .int _ y :: r => maxL k (if y > x then y else x) r
  | _ => none
noncomputable def minL (k : IntKind) (x : Int) : List AV → Option AV
  | [] => some (.int k x)
  | .int _ y :: r => minL k (if y < x then y else x) r
  | _ => none
noncomputable def maxA : List AV → Option AV
  | .int k x :: r => maxL k x r
  | _ => none
noncomputable def minA : List AV → Option AV
  | .int k x :: r => minL k x r
  | _ => none

/-! freezing: a value's mutable memory is given up, its contents become part of the value -/
noncomputable def mapS (g : St → AV → Option (AV × St)) : St → List AV → Option (List AV × St)
  | S, [] => some ([], S)
  | S, x :: xs => (g S x).o2 fun y S1 => (mapS g S1 xs).o2 fun ys S2 => some (y :: ys, S2)

noncomputable def frz : Nat → St → AV → Option (AV × St)
  | 0, _, _ => none
  | f + 1, S, v => match v with
    | .ms n off len _ z => (S.heap.get n).ob fun b => match b with
      | .cells c => (sub c off (len * z)).ob fun r => (mapS (frz f) { S with heap := S.heap.put n (.ice c) } r).o2 fun ys S2 => some (.fs ys len, S2)
      | .tcells _ c => (sub c off (len * z)).ob fun r => (mapS (frz f) { S with heap := S.heap.put n (.ice c) } r).o2 fun ys S2 => some (.fs ys len, S2)
      | .ice c => (sub c off (len * z)).ob fun r => (mapS (frz f) S r).o2 fun ys S2 => some (.fs ys len, S2)
      | .map _ _ => none
      | .iter .. => none
    | .mp n off => (S.heap.get n).ob fun b => match b with
      | .cells c => (mapS (frz f) { S with heap := S.heap.put n (.ice c) } (c.drop off)).o2 fun ys S2 => some (.fp ys, S2)
      | .tcells _ c => (mapS (frz f) { S with heap := S.heap.put n (.ice c) } (c.drop off)).o2 fun ys S2 => some (.fp ys, S2)
      | .ice c => (mapS (frz f) S (c.drop off)).o2 fun ys S2 => some (.fp ys, S2)
      | .map _ _ => none
      | .iter .. => none
    | .agg cs => (mapS (frz f) S cs).o2 fun ys S2 => some (.agg ys, S2)
    | .tup cs => (mapS (frz f) S cs).o2 fun ys S2 => some (.tup ys, S2)
    | .func g a c => (mapS (frz f) S a).o2 fun ys S2 => (mapS (frz f) S2 c).o2 fun zs S3 => some (.func g ys zs, S3)
    | .iface t x => (frz f S x).o2 fun ys S2 => some (.iface t ys, S2)
    | .nils => some (.fs [] 0, S)
    | .map _ => none
    | .pa _ _ _ => none
    | v => some (v, S)

noncomputable def frzFuel : Nat := 1000

/-- a struct that is stored: its slices are frozen, nil stays nil -/
noncomputable def frzK (S : St) : AV → Option (AV × St)
  | .ms n off len c z => frz frzFuel S (.ms n off len c z)
  | v => some (v, S)
noncomputable def frzS (S : St) (v : AV) : Option (AV × St) := some (v, S)
noncomputable def frzT (b : Bool) (S : St) (v : AV) : Option (AV × St) := bif b then frz frzFuel S v else frzS S v

/-- the parts of a literal, frozen -/
noncomputable def frzP (S : St) : List (Nat × AV) → Option (List (Nat × AV) × St)
  | [] => some ([], S)
  | p :: l => (frz frzFuel S p.2).o2 fun y S1 => (frzP S1 l).o2 fun ys S2 => some ((p.1, y) :: ys, S2)
/-- arguments, some of them frozen -/
noncomputable def frzM (m : Nat → Bool) : Nat → St → List AV → Option (List AV × St)
  | _, S, [] => some ([], S)
  | i, S, x :: xs => (frzT (m i) S x).o2 fun y S1 => (frzM m (i + 1) S1 xs).o2 fun ys S2 => some (y :: ys, S2)
noncomputable def fzArgs [Mx] (g : FuncId) (S : St) (args : List AV) : Option (List AV × St) := match Mx.fz g with
  | none => some (args, S)
  | some m => frzM m 0 S args
noncomputable def isBt [Mx] : Op → Bool
  | .buildSlice t _ _ => Mx.bt t
  | _ => false

noncomputable def appendA [Mx] (P : Program) (S : St) (t : TypeId) (x y : AV) : Option (AV × St) :=
  (te P t).ob fun e => (sliceOf e.und).ob fun elem => (te P elem).ob fun g => (chk (g.zero.cells.length.beq g.size && !g.size.beq 0)).ob fun _ =>
    (srcA S g.size y).ob fun new => (lenOfA y).ob fun m => (chk (new.all AV.one)).ob fun _ => growA S elem g new m x

inductive X where
  | n | e (id : Nat) | r

/-- the rest of a run: number of slots, code, slots, memory; all that may come of it -/
abbrev RunT := Nat → Code → Tm → St → Option (List (X × Tm × St))

noncomputable def mapO {α β : Type} (f : α → Option β) : List α → Option (List β)
  | [] => some []
  | x :: xs => (f x).ob fun y => (mapO f xs).ob fun ys => some (y :: ys)
noncomputable def catO {α β : Type} (f : α → Option (List β)) : List α → Option (List β)
  | [] => some []
  | x :: xs => (f x).ob fun y => (catO f xs).ob fun ys => some (y ++ ys)


/-! iteration over maps -/
noncomputable def rangeA (P : Program) (S : St) (t : TypeId) (x : AV) : Option (AV × St) :=
  (te P t).ob fun e => match e.und, x with
    | .map _ _, .nilm => some (.mp S.next 0, newB S (.iter none 0 [] 0))
    | .map _ _, .map n => (entriesOf S n).ob fun c => some (.mp S.next 0, newB S (.iter (some n) c.2 [] c.2))
    | _, _ => none
/-- what may come next: an entry, or the end -/
noncomputable def candA (es : List ME) (since : Nat) (seen : List Nat) : List (Option ME) :=
  let left := es.filter fun e => !seen.contains e.born
  let old := left.filter fun e => decide (e.born < since)
  let new := left.filter fun e => decide (e.born ≥ since)
  (bif old.isEmpty then [none] else []) ++ (old ++ new).map some
/-- the next entries that may come -/
noncomputable def nextA (S : St) (x : AV) : Option (List (AV × St)) :=
  match x with
  | .mp r 0 => (S.heap.get r).ob fun b => match b with
    | .iter none _ _ _ => some [(.tup [.bool false], S)]
    | .iter (some m) since seen last => (entriesOf S m).ob fun c =>
      (chk (!(!seen.isEmpty && !c.1.isEmpty && c.1.all fun e => decide (e.born ≥ last)))).ob fun _ =>
      some ((candA c.1 since seen).map fun o => match o with
        | none => (AV.tup [.bool false], S)
        | some e => (AV.tup [.bool true, e.key, e.val], { S with heap := S.heap.put r (.iter (some m) since (seen ++ [e.born]) c.2) }))
    | _ => none
  | _ => none
noncomputable def entryA (S : St) (x : AV) : Option AV :=
  match x with
  | .mp r 0 => (S.heap.get r).ob fun b => match b with
    | .iter (some m) _ seen stepped => (seen.getLast?).ob fun stamp => (entriesOf S m).ob fun c => (chk (c.2.beq stepped)).ob fun _ =>
      (c.1.find? fun e => e.born == stamp).ob fun e => some (.tup [e.key, e.val])
    | _ => none
  | _ => none

noncomputable def argsT : List AV → Nat → Tm
  | [], _ => .lf
  | v :: vs, i => (argsT vs (i + 1)).put i v

noncomputable def resA (P : Program) (T : Tm) (S : St) : ResultVar → Option AV
  | .tmp t => T.get t
  | .cell a t => (te P t).ob fun e => (T.get a).ob fun p => loadA e S p

noncomputable def ressA (P : Program) (T : Tm) (S : St) : List ResultVar → Option (List AV)
  | [] => some []
  | r :: rs => (resA P T S r).ob fun v => (ressA P T S rs).ob fun vs => some (v :: vs)

noncomputable def tupR : List AV → AV
  | [v] => v
  | vs => .tup vs

noncomputable def X.back : X → Bool
  | .e _ => false
  | _ => true

/-- a value that holds no address -/
noncomputable def flat : AV → Bool
  | .bool _ | .int _ _ | .str _ => true
  | _ => false

/-- is all that the first memory holds in the second? -/
noncomputable def sameMs : List ME → List ME → Bool
  | [], [] => true
  | a :: l, b :: m => same a.key b.key && same a.val b.val && a.born.beq b.born && sameMs l m
  | _, _ => false
noncomputable def sameAB : AB → AB → Bool
  | .cells a, .cells b => sames a b
  | .tcells t a, .tcells u b => t.beq u && sames a b
  | .ice a, .ice b => sames a b
  | .map a c, .map b d => c.beq d && sameMs a b
  | .iter m s l x, .iter m' s' l' x' => decide (m = m') && s.beq s' && decide (l = l') && x.beq x'
  | _, _ => false
noncomputable def subO : Option AB → Option AB → Bool
  | none, _ => true
  | some a, some b => sameAB a b
  | some _, none => false
noncomputable def subT : Tr AB → Tr AB → Bool
  | .lf, _ => true
  | .nd l v r, .nd l' v' r' => subO v v' && subT l l' && subT r r'
  | .nd _ _ _, .lf => false
/-- one way of a call that only looks -/
noncomputable def lookR (P : Program) (rs : List ResultVar) (S : St) (r : X × Tm × St) : Option (AV × Nat) :=
  (chk r.1.back).ob fun _ => (ressA P r.2.1 r.2.2 rs).ob fun vs => (chk (flat (tupR vs) && subT S.heap r.2.2.heap && Nat.ble S.next r.2.2.next)).ob fun _ => some (tupR vs, r.2.2.next)
/-- all its ways: the value, and the greatest name -/
noncomputable def looksR (P : Program) (rs : List ResultVar) (S : St) : List (X × Tm × St) → Option (AV × Nat)
  | [] => none
  | [r] => lookR P rs S r
  | r :: l => (lookR P rs S r).ob fun p => (looksR P rs S l).ob fun q => (chk (same p.1 q.1)).ob fun _ => some (p.1, bc (Nat.ble p.2 q.2) q.2 p.2)

/-- a call that sees the caller's memory -/
noncomputable def callN [Mx] (P : Program) (rec : RunT) (f : FuncId) (args : List AV) (S : St) : Option (AV × St) :=
  (P.funcs[f]?).ob fun fn => fn.body.ob fun c => (chk (Nat.ble args.length fn.ntmps)).ob fun _ =>
    (rec fn.ntmps c (argsT args 0) S).ob fun rs => match rs with
      | [r] => on3 (fun x T S' => (chk x.back).ob fun _ => (ressA P T S' fn.results.toList).ob fun vs => some (tupR vs, S')) r
      | rs => bif Mx.ro f then (looksR P fn.results.toList S rs).ob fun q => some (q.1, ⟨S.heap, q.2⟩) else none

/-- a call in memory of its own, and what may come of it, frozen -/
noncomputable def callM (P : Program) (rec : RunT) (f : FuncId) (args : List AV) : Option (List AV) :=
  (P.funcs[f]?).ob fun fn => fn.body.ob fun c => (chk (Nat.ble args.length fn.ntmps)).ob fun _ =>
    (rec fn.ntmps c (argsT args 0) ⟨.lf, 0⟩).ob fun rs => mapO (on3 fun x T S' => (chk x.back).ob fun _ => (ressA P T S' fn.results.toList).ob fun vs => (frz frzFuel S' (tupR vs)).o2 fun q _ => some q) rs

/-- a call as a function of name-free arguments: known, or run in memory of its own; its result is frozen -/
noncomputable def pureF [Mx] (P : Program) (rec : RunT) (f : FuncId) (args : List AV) : Option AV :=
  match Mx.x f args with
  | some q => some q
  | none => (callM P rec f args).ob fun l => match l with
    | q :: l => (chk (l.all fun x => same q x)).ob fun _ => some q
    | [] => none

noncomputable def flatT : AV → Bool
  | .tup l => l.all flat
  | _ => false
/-- a call on frozen arguments; where its result holds no address the arguments are but lent -/
noncomputable def callP [Mx] (P : Program) (rec : RunT) (f : FuncId) (args : List AV) (S : St) : Option (AV × St) :=
  (mapS (frz frzFuel) S args).o2 fun as S2 => (pureF P rec f as).ob fun q => some (q, bif flat q || (Mx.ln f && flatT q) then S else S2)

/-- a slice of at most one element -/
noncomputable def tinyS : AV → Bool
  | .nils => true
  | .ms _ _ l _ _ => Nat.ble l 1
  | .fs _ l => Nat.ble l 1
  | _ => false
/-- a call that has nothing to do: a slice of at most one element, and a function -/
noncomputable def tinyA [Mx] (f : FuncId) : List AV → Bool
  | [.iface t x, .func _ _ _] => Mx.tn f t && tinyS x
  | _ => false

noncomputable def natI : Int → Option Nat
  | .ofNat n => some n
  | .negSucc _ => none
/-- two elements of a slice change places -/
noncomputable def swapA (P : Program) (args : List AV) (S : St) : Option (AV × St) := match args with
  | [.int .i64 i, .int .i64 j, .ms n off len _ z, .adr b t] => (chk (b.beq P.globals.size)).ob fun _ => (te P t).ob fun e => (chk (e.size.beq z)).ob fun _ =>
      (natI i).ob fun i => (natI j).ob fun j => (chk (Nat.blt i len && Nat.blt j len)).ob fun _ =>
      (loadA e S (.mp n (off + i * z))).ob fun x => (loadA e S (.mp n (off + j * z))).ob fun y =>
      (storeA e S (.mp n (off + i * z)) y).ob fun S1 => (storeA e S1 (.mp n (off + j * z)) x).ob fun S2 => some (.tup [], S2)
  | _ => none
/-- a sort of a slice by a function: what sorts, and its arguments -/
noncomputable def sortQ [Mx] (P : Program) (f : FuncId) : List AV → Option (FuncId × List AV)
  | [.iface t (.ms n off len cap z), .func lf la lc] => (Mx.so f t).ob fun q => (chk (Nat.blt 1 len && Nat.blt len 4611686018427387904)).ob fun _ =>
      some (q.1, [.agg [.func lf la lc, .func q.2.1 [] [.ms n off len cap z, .adr P.globals.size q.2.2]], .int .i64 0, .int .i64 len, .int .i64 ((len.log2 + 1 : Nat) : Int)])
  | _ => none
noncomputable def unitR : Option (AV × St) → Option (AV × St)
  | some (.tup [], S) => some (.tup [], S)
  | _ => none

noncomputable def callB [Mx] (pol : FuncId → Bool) (P : Program) (rec : RunT) (f : FuncId) (args : List AV) (S : St) : Option (AV × St) :=
  bif Mx.sw f then swapA P args S else bif tinyA f args then some (.tup [], S) else match sortQ P f args with
    | some q => unitR (callN P rec q.1 q.2 S)
    | none => bif pol f then callP P rec f args S else callN P rec f args S

/-- a call: of a function without a body that is known, or of another -/
noncomputable def callA [Mx] (pol : FuncId → Bool) (P : Program) (rec : RunT) (f : FuncId) (args : List AV) (S : St) : Option (AV × St) := match Mx.ex f args with
  | some v => some (v, S)
  | none => callB pol P rec f args S

/-- the first n elements of a slice -/
noncomputable def truncA (n : Nat) : AV → Option AV
  | .nils => some .nils
  | .ms b o _ c z => some (.ms b o n c z)
  | .fs cs _ => some (.fs cs n)
  | _ => none
noncomputable def copyTo (S : St) (z n : Nat) (new : List AV) : AV → Option (AV × St)
  | .nils => some (.int .i64 n, S)
  | .fs _ 0 => some (.int .i64 n, S)
  | .ms b off _ _ z' => (chk (z.beq z')).ob fun _ => (cellsOf S b).ob fun c => (over c off new).ob fun r => some (.int .i64 n, { S with heap := S.heap.put b (.cells r) })
  | _ => none
noncomputable def copyA (P : Program) (S : St) (t : TypeId) (x y : AV) : Option (AV × St) :=
  (te P t).ob fun e => (sliceOf e.und).ob fun elem => (te P elem).ob fun g => (lenOfA x).ob fun dl => (lenOfA y).ob fun sl =>
    (truncA (bc (Nat.ble sl dl) sl dl) y).ob fun y' => (srcA S g.size y').ob fun new => (chk (new.all AV.one)).ob fun _ => copyTo S g.size (bc (Nat.ble sl dl) sl dl) new x

/-- the address of a slice's first element -/
noncomputable def dataA : AV → Option AV
  | .ms n off (_ + 1) _ _ => some (.mp n off)
  | _ => none
/-- the bytes of a row as a string; the row is given up -/
noncomputable def ustrA (P : Program) (S : St) (pt : TypeId) : AV → AV → Option (AV × St)
  | .mp n 0, .int .i64 (.ofNat m) => (te P pt).ob fun e => match e.und with
    | .pointer el => (cellsOf S n).ob fun cs => (chk (typed S n el && (P.cellsOf el).beq 1 && Nat.blt 0 m && Nat.ble m cs.length && Nat.ble m big)).ob fun _ =>
        (bytesOfA (cs.take m)).ob fun bs => some (.str ⟨bs.toArray⟩, { S with heap := S.heap.del n })
    | _ => none
  | _, _ => none
noncomputable def builtinA [Mx] (P : Program) (b : Builtin) (ts : List TypeId) (args : List AV) (S : St) : Option (AV × St) :=
  match b, args, ts with
  | .len, [x], t :: _ => (lenA P S t x).ob fun v => some (v, S)
  | .append, [x, y], [t, u] => (te P u).ob fun ue => match ue.und with
    | .int _ => none
    | _ => appendA P S t x y
  | .copy, [x, y], [t, _] => copyA P S t x y
  | .unsafeSliceData, [x], _ => (dataA x).ob fun v => some (v, S)
  | .unsafeString, [x, y], [t, _] => ustrA P S t x y
  | .max, l, _ => (maxA l).ob fun v => some (v, S)
  | .min, l, _ => (minA l).ob fun v => some (v, S)
  | _, _, _ => none

/-- an array that is built as a row -/
noncomputable def allocArr (P : Program) (e : TE) (S : St) : Option (AV × St) := match e.und with
  | .array m el => (te P el).ob fun g => (chk (e.zero.cells.length.beq (m * g.size))).ob fun _ => some (.pa S.next m g.size, newB S (.cells e.zero.cells))
  | _ => none

/-- what an operation does -/
structure OpF where
  f : RunT → Tm → St → Option (AV × St)

noncomputable def aOp [Gl] [Mx] (pol : FuncId → Bool) (P : Program) (o : Op) : OpF :=
  match o with
  | .move x => ⟨fun _ T S => (ev T x).ob fun v => some (v, S)⟩
  | .assign x => ⟨fun _ T S => (ev T x).ob fun v => some (v, S)⟩
  | .pick c a b => ⟨fun _ T S => (ev T c).ob fun c => match c with
    | .bool true => (ev T a).ob fun v => some (v, S)
    | .bool false => (ev T b).ob fun v => some (v, S)
    | _ => none⟩
  | .alloc t => match te P t with
    | some e => bif Mx.ar t then ⟨fun _ _ S => allocArr P e S⟩ else ⟨fun _ _ S => some (.mp S.next 0, newB S (rowB (Mx.ty t) t e.zero.cells))⟩
    | none => ⟨fun _ _ _ => none⟩
  | .box t x => match te P t with
    | some _ => ⟨fun _ T S => (ev T x).ob fun v => some (.mp S.next 0, newB S (.cells v.cells))⟩
    | none => ⟨fun _ _ _ => none⟩
  | .build t ps => ⟨fun _ T S => (evp T ps.toList).ob fun vs => (buildA P t vs).ob fun v => some (v, S)⟩
  | .buildSlice t n ps => ⟨fun _ T S => (evp T ps.toList).ob fun vs => bc (Mx.bt t) ((frzP S vs).ob fun q => buildSliceA P q.2 t n q.1) (buildSliceA P S t n vs)⟩
  | .load t a => match te P t with
    | some e => ⟨fun _ T S => (ev T a).ob fun p => (loadA e S p).ob fun v => some (v, S)⟩
    | none => ⟨fun _ _ _ => none⟩
  | .store t a x => match te P t with
    | some e => ⟨fun _ T S => (ev T a).ob fun p => (ev T x).ob fun v => (frzT (Mx.st t a x) S v).o2 fun u S2 => (storeA e S2 p u).ob fun S' => some (.tup [], S')⟩
    | none => ⟨fun _ _ _ => none⟩
  | .nilCheck x => ⟨fun _ T S => (ev T x).ob fun v => match v with
    | .nilp | .nili | .nilf => none
    | v => some (v, S)⟩
  | .binOp op t x y _ => ⟨fun _ T S => (ev T x).ob fun a => (ev T y).ob fun b => (binA P op t x y a b).ob fun v => some (v, S)⟩
  | .unOp op _ x => ⟨fun _ T S => (ev T x).ob fun a => (unA op a).ob fun v => some (v, S)⟩
  | .convert s d x => ⟨fun _ T S => (ev T x).ob fun a => (convA P S s d a).ob fun v => some (v, S)⟩
  | .makeInterface t x => ⟨fun _ T S => (te P t).ob fun e => (ev T x).ob fun v => match e.und with
    | .interface _ => none
    | _ => some (.iface t v, S)⟩
  | .makeFunc fn f c => ⟨fun _ T S => match fn with
    | .func g => (evs T f.toList).ob fun f => (evs T c.toList).ob fun c => some (.func g f c, S)
    | _ => none⟩
  | .makeMap _ r => ⟨fun _ _ S => (chk r.isNone).ob fun _ => some (.map S.next, newB S (.map [] 0))⟩
  | .makeSlice t l c => ⟨fun _ T S => (ev T l).ob fun l => (ev T c).ob fun c => makeSliceA P S t l c⟩
  | .slice t x lo hi mx => ⟨fun _ T S => (ev T x).ob fun a => (sliceX P S T t a lo hi mx).ob fun v => some (v, S)⟩
  | .fieldAddr s x f => ⟨fun _ T S => (ev T x).ob fun a => (fieldAddrA P s a f).ob fun v => some (v, S)⟩
  | .field s x f => ⟨fun _ T S => (ev T x).ob fun a => (fieldA P s a f).ob fun v => some (v, S)⟩
  | .indexAddr t x i => ⟨fun _ T S => (ev T x).ob fun a => (ev T i).ob fun i => (indexAddrA P t a i).ob fun v => some (v, S)⟩
  | .index t x i => ⟨fun _ T S => (ev T x).ob fun a => (ev T i).ob fun i => (indexA P t a i).ob fun v => some (v, S)⟩
  | .lookup t x i ok => ⟨fun _ T S => (ev T x).ob fun a => (ev T i).ob fun i => (lookupA P S t a i ok).ob fun v => some (v, S)⟩
  | .mapUpdate t m k x => ⟨fun _ T S => (ev T m).ob fun m => (ev T k).ob fun k => (ev T x).ob fun v => (mapUpdA P S t m k v).ob fun S' => some (.tup [], S')⟩
  | .insert t m k x => ⟨fun _ T S => (ev T m).ob fun m => (ev T k).ob fun k => (ev T x).ob fun v => (mapUpdA P S t m k v).ob fun S' => some (.tup [], S')⟩
  | .mapEntry t m k => ⟨fun _ T S => (ev T m).ob fun m => (ev T k).ob fun k => mapEntA P S t m k⟩
  | .entryStore _ m s x => ⟨fun _ T S => (ev T m).ob fun m => (ev T s).ob fun s => (ev T x).ob fun v => (entStA S m s v).ob fun S' => some (.tup [], S')⟩
  | .range t x => ⟨fun _ T S => (ev T x).ob fun v => rangeA P S t v⟩
  | .entry x => ⟨fun _ T S => (ev T x).ob fun v => (entryA S v).ob fun u => some (u, S)⟩
  | .extract t i => ⟨fun _ T S => (ev T t).ob fun t => match t with
    | .tup vs => (vs[i]?).ob fun v => some (v, S)
    | _ => none⟩
  | .call c => match c.callee with
    | .builtin b => ⟨fun _ T S => (evs T c.args.toList).ob fun args => builtinA P b c.argTypes.toList args S⟩
    | .value f => ⟨fun rec T S => (evs T c.args.toList).ob fun args => (ev T f).ob fun f => match f with
      | .func g first cap => (fzArgs g S (first ++ args ++ cap)).o2 fun as S2 => callA pol P rec g as S2
      | _ => none⟩
    | .invoke _ _ => ⟨fun _ _ _ => none⟩
  | _ => ⟨fun _ _ _ => none⟩

/-- is the operation's guard met? -/
noncomputable def wantA (ops : List Oper) (T : Tm) (o : Oper) : Option Bool :=
  match o.guard with
  | none => some true
  | some (j, w) => match (ops[j]?).ob (·.dst) with
    | none => some false
    | some d => (T.get d).ob fun v => match v with
      | .bool b => some (b == w)
      | _ => some false

noncomputable def putA (nt : Nat) (T : Tm) (dst : Option Tmp) (v : AV) : Option Tm :=
  match dst with
  | none => some T
  | some d => (chk (Nat.blt d nt)).ob fun _ => some (T.put d v)

structure CodeF where
  f : RunT → Nat → Tm → St → Option (Tm × St)

noncomputable def opsA [Gl] [Mx] (pol : FuncId → Bool) (P : Program) (all : List Oper) : List Oper → CodeF
  | [] => ⟨fun _ _ T S => some (T, S)⟩
  | o :: l => match o.guard with
    | none => ⟨fun rec nt T S => ((aOp pol P o.op).f rec T S).o2 fun v S' => (chk (Nat.ble S.next S'.next)).ob fun _ => (putA nt T o.dst v).ob fun T' => (opsA pol P all l).f rec nt T' S'⟩
    | some _ => ⟨fun rec nt T S => (wantA all T o).ob fun w =>
        bc w (((aOp pol P o.op).f rec T S).o2 fun v S' => (chk (Nat.ble S.next S'.next)).ob fun _ => (putA nt T o.dst v).ob fun T' => (opsA pol P all l).f rec nt T' S')
        ((putA nt T o.dst (.tup [])).ob fun T' => (opsA pol P all l).f rec nt T' S)⟩

/-! regions that draw their order -/
inductive Cls where
  | pure | pcall | read | alloc | loc | write

noncomputable def polO (pol : FuncId → Bool) : Operand → Bool
  | .func f => pol f
  | _ => false

noncomputable def cls (pol : FuncId → Bool) : Op → Cls
  | .slice _ _ lo hi mx => bif allN lo hi mx then .write else .pure
  | .move _ | .assign _ | .pick .. | .build .. | .nilCheck _ | .binOp .. | .unOp .. | .makeInterface .. | .makeFunc .. | .fieldAddr .. | .field ..
  | .indexAddr .. | .index .. | .extract .. => .pure
  | .load .. | .lookup .. | .convert .. => .read
  | .alloc _ | .box .. | .buildSlice .. | .makeSlice .. | .makeMap .. => .alloc
  | .store .. | .mapUpdate .. | .mapEntry .. | .entryStore .. | .insert .. => .loc
  | .call c => match c.callee with
    | .builtin .len => .read
    | .builtin .max | .builtin .min => .pure
    | .builtin .append => .loc
    | .value f => bif polO pol f then .pcall else .write
    | _ => .write
  | _ => .write

noncomputable def nameOf : AV → List Nat
  | .mp n _ => [n]
  | .ms n _ _ _ _ => [n]
  | .map n => [n]
  | _ => []

/-- the blocks that a reading operation looks at -/
noncomputable def foot [Gl] (T : Tm) : Op → List Nat
  | .load _ a => match ev T a with | some v => nameOf v | none => []
  | .lookup _ x _ _ => match ev T x with | some v => nameOf v | none => []
  | .convert _ _ x => match ev T x with | some v => nameOf v | none => []
  | .call c => match c.args.toList with
    | [x] => match ev T x with | some (.map n) => [n] | _ => []
    | _ => []
  | _ => []

/-- the blocks that an append works on -/
noncomputable def footL [Gl] (T : Tm) : Op → List Nat
  | .store _ a _ => match ev T a with | some v => nameOf v | none => []
  | .mapUpdate _ m _ _ | .mapEntry _ m _ | .entryStore _ m _ _ | .insert _ m _ _ => match ev T m with | some v => nameOf v | none => []
  | .call c => match evs T c.args.toList with | some vs => vs.flatMap nameOf | none => []
  | _ => []

structure PS where
  i : Nat
  hide : List Nat
  lg : Bool
  c : Cls

noncomputable def restrict (h : Tr AB) : List Nat → Tr AB
  | [] => .lf
  | n :: ns => match h.get n with
    | some b => (restrict h ns).put n b
    | none => restrict h ns

noncomputable def dels (h : Tr AB) : List Nat → Tr AB
  | [] => h
  | n :: ns => (dels h ns).del n

/-- lay the blocks of old at these names over h -/
noncomputable def back (old h : Tr AB) : List Nat → Tr AB
  | [] => h
  | n :: ns => (back old h ns).setP (old.get n) (pathOf n)

/-- lay the blocks that old has at these names over h -/
noncomputable def lay (old h : Tr AB) : List Nat → Tr AB
  | [] => h
  | n :: ns => match old.get n with
    | some b => (lay old h ns).put n b
    | none => lay old h ns


/-- what a region has done so far: an operation, the blocks that it looked at or made or changed; for a reading one: would it read the same now? -/
structure LE where
  i : Nat
  ns : List Nat
  re : Option (Tr AB → Bool)

noncomputable def logged (log : List LE) (hide : List Nat) : List Nat :=
  (log.filter fun p => hide.contains p.i && p.re.isNone).flatMap (·.ns)

noncomputable def reads (log : List LE) (hide : List Nat) (h : Tr AB) : Bool :=
  log.all fun p => match p.re with
    | some r => !hide.contains p.i || r h
    | none => true

noncomputable def reOf [Gl] [Mx] (P : Program) (o : Op) (T : Tm) (ns : List Nat) (m : Nat) (v : AV) (h : Tr AB) : Bool :=
  match (aOp (fun _ => false) P o).f (fun _ _ _ _ => none) T ⟨restrict h ns, m⟩ with
  | some (u, _) => same v u
  | none => false

noncomputable def old (log : List LE) (hide : List Nat) (m : Nat) : Bool := log.all fun q => !hide.contains q.i || q.ns.all fun n => Nat.blt n m

noncomputable def note (lg : Bool) (e : LE) (log : List LE) : List LE := bif lg then e :: log else log

noncomputable def names (x y : Nat) : List Nat := List.range' x (y - x)

structure PlanF where
  f : RunT → Nat → List LE → Tm → St → Option (Tm × St)

noncomputable def planA [Gl] [Mx] (pol : FuncId → Bool) (P : Program) (all : List Oper) : List PS → PlanF
  | [] => ⟨fun _ _ _ T S => some (T, S)⟩
  | p :: l => match all[p.i]? with
    | none => ⟨fun _ _ _ _ _ => none⟩
    | some o => match p.c with
      | .pure => ⟨fun rec nt log T S => (wantA all T o).ob fun w => bc w
          (((aOp pol P o.op).f rec T S).o2 fun v _ => (putA nt T o.dst v).ob fun T' => (planA pol P all l).f rec nt log T' S)
          ((putA nt T o.dst (.tup [])).ob fun T' => (planA pol P all l).f rec nt log T' S)⟩
      | .pcall => ⟨fun rec nt log T S => (wantA all T o).ob fun w => bc w
          (((aOp pol P o.op).f rec T ⟨.lf, S.next⟩).o2 fun v S' => (chk (S'.next.beq S.next)).ob fun _ => (putA nt T o.dst v).ob fun T' => (planA pol P all l).f rec nt log T' S)
          ((putA nt T o.dst (.tup [])).ob fun T' => (planA pol P all l).f rec nt log T' S)⟩
      | .read => ⟨fun rec nt log T S => (wantA all T o).ob fun w => bc w
          ((chk ((foot T o.op).all fun n => !(logged log p.hide).contains n)).ob fun _ =>
          ((aOp pol P o.op).f rec T S).o2 fun v _ =>
          (putA nt T o.dst v).ob fun T' => (planA pol P all l).f rec nt (note p.lg ⟨p.i, foot T o.op, some (reOf P o.op T (foot T o.op) S.next v)⟩ log) T' S)
          ((putA nt T o.dst (.tup [])).ob fun T' => (planA pol P all l).f rec nt log T' S)⟩
      | .alloc => ⟨fun rec nt log T S => (wantA all T o).ob fun w => bc w
          ((chk (!isBt o.op && old log p.hide S.next)).ob fun _ => ((aOp pol P o.op).f rec T S).o2 fun v S' =>
          (putA nt T o.dst v).ob fun T' => (planA pol P all l).f rec nt (note p.lg ⟨p.i, [S.next], none⟩ log) T' S')
          ((putA nt T o.dst (.tup [])).ob fun T' => (planA pol P all l).f rec nt log T' S)⟩
      | .loc => ⟨fun rec nt log T S => (wantA all T o).ob fun w => bc w
          ((chk (old log p.hide S.next && (footL T o.op).all fun n => !(logged log p.hide).contains n)).ob fun _ =>
          ((aOp pol P o.op).f rec T ⟨restrict S.heap (footL T o.op), S.next⟩).o2 fun v S' => (chk (Nat.ble S.next S'.next)).ob fun _ =>
          (chk (reads log p.hide (lay S'.heap (back S'.heap S.heap (footL T o.op)) (names S.next S'.next)))).ob fun _ =>
          (putA nt T o.dst v).ob fun T' => (planA pol P all l).f rec nt (note p.lg ⟨p.i, footL T o.op ++ names S.next S'.next, none⟩ log) T' ⟨lay S'.heap (back S'.heap S.heap (footL T o.op)) (names S.next S'.next), S'.next⟩)
          ((putA nt T o.dst (.tup [])).ob fun T' => (planA pol P all l).f rec nt log T' S)⟩
      | .write => ⟨fun rec nt log T S => (wantA all T o).ob fun w => bc w
          (((aOp pol P o.op).f rec T ⟨dels S.heap (logged log p.hide), S.next⟩).o2 fun v S' => (chk (Nat.ble S.next S'.next)).ob fun _ =>
          (chk (reads log p.hide (back S.heap S'.heap (logged log p.hide)))).ob fun _ =>
          (putA nt T o.dst v).ob fun T' => (planA pol P all l).f rec nt log T' ⟨back S.heap S'.heap (logged log p.hide), S'.next⟩)
          ((putA nt T o.dst (.tup [])).ob fun T' => (planA pol P all l).f rec nt log T' S)⟩

structure StepF where
  f : RunT → Nat → Tm → St → Option (List (X × Tm × St))

/-- a region in the order of the text; where it begins with a step of an iteration, each entry that may come -/
noncomputable def regA [Gl] [Mx] (pol : FuncId → Bool) (P : Program) (ops : List Oper) : StepF :=
  match ops with
  | [] => ⟨fun _ _ T S => some [(.n, T, S)]⟩
  | o :: l => match o.op, o.guard with
    | .next x false, none => ⟨fun rec nt T S => (ev T x).ob fun v => (nextA S v).ob fun outs => mapO (fun r => (putA nt T o.dst r.1).ob fun T' => ((opsA pol P ops l).f rec nt T' r.2).o2 fun T2 S2 => (chk (Nat.ble S.next S2.next)).ob fun _ => some (.n, T2, S2)) outs⟩
    | _, _ => ⟨fun rec nt T S => ((opsA pol P ops ops).f rec nt T S).o2 fun T2 S2 => some [(.n, T2, S2)]⟩

noncomputable def runF [Gl] [Mx] (pol : FuncId → Bool) (pl : List Oper → Option (List PS)) (P : Program) (c : Code) : StepF :=
  match c with
  | .skip => ⟨fun _ _ T S => some [(.n, T, S)]⟩
  | .region _ ops d =>
    bif d then match pl ops.toList with
      | some p => ⟨fun rec nt T S => ((planA pol P ops.toList p).f rec nt [] T S).o2 fun T2 S2 => some [(.n, T2, S2)]⟩
      | none => ⟨fun _ _ _ _ => none⟩
    else regA pol P ops.toList
  | .seq a b => ⟨fun rec nt T S => (rec nt a T S).ob fun rs => catO (on3 fun x T S => match x with
    | .n => rec nt b T S
    | x => some [(x, T, S)]) rs⟩
  | .cond c a b => ⟨fun rec nt T S => (ev T c).ob fun v => match v with
    | .bool true => rec nt a T S
    | .bool false => rec nt b T S
    | _ => none⟩
  | .block id b => ⟨fun rec nt T S => (rec nt b T S).ob fun rs => some (rs.map (on3 fun x T S => match x with
    | .e i => bif i.beq id then (.n, T, S) else (.e i, T, S)
    | x => (x, T, S)))⟩
  | .loop b => ⟨fun rec nt T S => (rec nt b T S).ob fun rs => catO (on3 fun x T S => match x with
    | .n => rec nt (.loop b) T S
    | x => some [(x, T, S)]) rs⟩
  | .exit id => ⟨fun _ _ T S => some [(.e id, T, S)]⟩
  | .ret => ⟨fun _ _ T S => some [(.r, T, S)]⟩
  | _ => ⟨fun _ _ _ _ => none⟩

noncomputable def run [Gl] [Mx] (pol : FuncId → Bool) (pl : List Oper → Option (List PS)) (P : Program) (n : Nat) : RunT :=
  Nat.rec (motive := fun _ => RunT) (fun _ _ _ _ => none) (fun _ ih nt c T S => (runF pol pl P c).f ih nt T S) n

/-! the plan of a region -/
noncomputable def bindsA (e : Edge) : Bool := match e.ground with
  | .textOnly _ | .gcOnly _ => false
  | _ => true

/-- bit c of the i-th number: operation c must come before i -/
noncomputable def befores : List Oper → List Nat → List Nat
  | [], acc => acc
  | o :: l, acc => befores l (acc ++ [o.after.toList.foldl (fun s e => bif bindsA e then s ||| (1 <<< e.on) ||| (acc.getD e.on 0) else s) 0])

/-- must c, planned ahead of i and not ordered with it, be looked after when i runs? none: the two may not stand unordered -/
noncomputable def pairC : Cls → Cls → Option Bool
  | .pure, _ | .pcall, _ | _, .pure | _, .pcall => some false
  | .read, .read => some false
  | .read, .alloc | .read, .loc | .read, .write => some true
  | .alloc, .read | .loc, .read => some true
  | .alloc, .alloc => some false
  | .loc, .alloc | .alloc, .loc | .alloc, .write | .loc, .loc | .loc, .write => some true
  | .write, _ => none

/-- a literal with a call's answer in it: it may freeze what the call made -/
noncomputable def litCall (all : List (Nat × Oper)) : Op → Bool
  | .buildSlice _ _ ps => ps.toList.any fun p => match p.2 with
    | .tmp t => all.any fun q => (match q.2.dst with | some d => d.beq t | none => false) && (match q.2.op with | .call _ => true | _ => false)
    | _ => false
  | _ => false
/-- how an operation of a region is taken: as what it is, or, where nothing disturbs it, as one that may write everything -/
noncomputable def modeOf (pol : FuncId → Bool) (bs : List Nat) (all : List (Nat × Oper)) (i : Nat) (o : Oper) : Cls :=
  match cls pol o.op with
  | .pcall | .loc => bif all.all (fun q => q.1.beq i || (bs.getD i 0).testBit q.1 || (bs.getD q.1 0).testBit i || (match cls pol q.2.op with | .pure => true | .read => true | .alloc => true | _ => false)) then .write else cls pol o.op
  | .alloc => bif litCall all o.op && (all.all (fun q => q.1.beq i || (bs.getD i 0).testBit q.1 || (bs.getD q.1 0).testBit i || (match cls pol q.2.op with | .pure => true | .read => true | .alloc => true | _ => false))) then .write else .alloc
  | c => c

noncomputable def rank : Cls → Nat
  | .loc => 1
  | .write => 2
  | _ => 0

noncomputable def hideOf (bs : List Nat) (done : List (Nat × Cls)) (i : Nat) (c : Cls) : List Nat :=
  (done.filter fun p => !(bs.getD i 0).testBit p.1 && (pairC p.2 c == some true)).map (·.1)

/-- the next operation: the first of the lowest rank whose predecessors are done -/
noncomputable def pickNext (bs : List Nat) (done left : List (Nat × Cls)) : Option (Nat × Cls) :=
  let mask := done.foldl (fun s p => s ||| (1 <<< p.1)) 0
  let ready := left.filter fun p => ((bs.getD p.1 0) &&& mask) == bs.getD p.1 0
  match ready.find? fun p => (rank p.2).beq 0 with
  | some p => some p
  | none => match ready.find? fun p => (rank p.2).beq 1 with
    | some p => some p
    | none => ready.head?

noncomputable def planFrom (bs : List Nat) : Nat → List (Nat × Cls) → List (Nat × Cls) → List PS
  | 0, _, _ => []
  | f + 1, done, left => match pickNext bs done left with
    | none => []
    | some p => ⟨p.1, hideOf bs done p.1 p.2, false, p.2⟩ :: planFrom bs f (done ++ [p]) (left.filter fun q => !q.1.beq p.1)

/-- which operations must be noted: those that a later one looks after -/
noncomputable def planFix : List PS → List PS
  | [] => []
  | p :: l => { p with lg := l.any fun q => q.hide.contains p.i } :: planFix l

/-- may c, which stands ahead of p in the plan, come behind p as well? -/
noncomputable def pairOk (all : List Oper) (bs : List Nat) (c p : PS) : Bool :=
  (bs.getD p.i 0).testBit c.i ||
  match all[c.i]?, all[p.i]? with
  | some oc, some oi => Oper.apart all.toArray oc oi && (match pairC c.c p.c with
    | none => false
    | some b => !b || (p.hide.contains c.i && c.lg))
  | _, _ => false

noncomputable def modeOk : Cls → Cls → Bool
  | _, .write => true
  | .pure, .pure | .pcall, .pcall | .read, .read | .alloc, .alloc | .loc, .loc => true
  | _, _ => false

noncomputable def planOkB (pol : FuncId → Bool) (all : List Oper) (bs : List Nat) : List PS → List PS → Bool
  | done, [] => done.length.beq all.length && (List.range all.length).all fun i => (done.map (·.i)).contains i
  | done, p :: l => Nat.blt p.i all.length && !(done.map (·.i)).contains p.i &&
      (match all[p.i]? with
        | some o => modeOk (cls pol o.op) p.c && o.after.toList.all fun e => !bindsA e || (done.map (·.i)).contains e.on
        | none => false) &&
      done.all (fun c => pairOk all bs c p) && planOkB pol all bs (p :: done) l

noncomputable def planOf (pol : FuncId → Bool) (l : List Oper) : Option (List PS) :=
  let bs := befores l []
  let all := l.zipIdx.map fun p => (p.2, p.1)
  let p := planFix (planFrom bs l.length [] (all.map fun q => (q.1, modeOf pol bs all q.1 q.2)))
  bif planOkB pol l bs [] p then some p else none

end Go.Eng
