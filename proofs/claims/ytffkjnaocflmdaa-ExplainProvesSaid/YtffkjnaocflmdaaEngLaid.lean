/-
 Package-level variables that nobody writes: what a row lists of them gives the engine's frozen values.
-/
import Derived.Test.YtffkjnaocflmdaaEngTop
import GoSem.ClaimJoined
namespace Go.Eng
set_option linter.unusedSectionVars false
variable [Gl] [Mx]

noncomputable def convs (g : DataW Unit → Option (List AV)) : List (DataW Unit) → Option (List AV)
 | [] => some []
 | d :: ds => (g d).ob fun x => (convs g ds).ob fun y => some (x ++ y)

noncomputable def convF (P : Program) (g : TypeId → DataW Unit → Option (List AV)) : Nat → List Field → List (DataW Unit) → Option (List AV)
 | _, [], [] => some []
 | off, f :: fs, d :: ds => (chk (f.offset.beq off)).ob fun _ => (g f.type d).ob fun x => (chk (x.length.beq (P.cellsOf f.type))).ob fun _ =>
   (convF P g (off + P.cellsOf f.type) fs ds).ob fun y => some (x ++ y)
 | _, _, _ => none

/-- a datum as the engine's frozen cells -/
noncomputable def conv (P : Program) : Nat → TypeId → DataW Unit → Option (List AV)
 | 0, _, _ => none
 | f + 1, t, d => match P.underlying t, d with
  | some .bool, .lit (.bool b) => some [.bool b]
  | some (.int _), .lit (.int k n) => some [.int k n]
  | some .string, .lit (.string s) => some [.str ⟨s.toArray⟩]
  | some (.slice e), .slice (x :: xs) _ => (chk (Nat.blt 0 (P.cellsOf e))).ob fun _ => (convs (fun d => (conv P f e d).ob fun y => (chk (y.length.beq (P.cellsOf e))).ob fun _ => some y) (x :: xs)).ob fun cs => some [.fs cs (xs.length + 1)]
  | some (.struct fs), .agg ds => (convF P (conv P f) 0 fs.toList ds).ob fun r => (chk (r.length.beq (P.cellsOf t))).ob fun _ => some r
  | _, _ => none

def allProt (w : World) (b : Nat) : Option (Array Value) := match w.heap[b]? with
 | some (.cells arr _ _) => some arr
 | _ => none

def Gh.all (w : World) : Gh := { dom := fun _ => False, blk := fun _ => 0, sh := fun _ => 0, bsz := fun _ => 0, prot := allProt w }

theorem all_blk (w : World) (b : Nat) (arr : Array Value) (h : (Gh.all w).prot b = some arr) : ∃ el fz, w.heap[b]? = some (.cells arr el fz) := by
 have h : allProt w b = some arr := h
 unfold allProt at h
 split at h
 ·rename_i c el fz hw; cases h; exact ⟨el, fz, hw⟩
 ·cases h

theorem cell_prot {w : World} {a : Addr} {v : Value} (h : w.cell? a = some v) : a.spot = none ∧ ∃ arr, allProt w a.block = some arr ∧ arr[a.off]? = some v := by
 unfold World.cell? at h
 split at h
 ·rename_i c el fz hw
  split at h
  ·cases h
  ·rename_i hs
   refine ⟨by cases hsp : a.spot <;> simp_all, c, by unfold allProt; rw [hw], h⟩
 ·cases h

theorem cells_prot {w : World} {base : Nat} {a : Addr} {n : Nat} {cs : List Value} (h : w.cells? base a n = some cs) (hn : 0 < n) :
  a.spot = none ∧ ∃ arr, allProt w a.block = some arr ∧ cs = (arr.toList.drop a.off).take n ∧ cs.length = n := by
 unfold World.cells? at h
 split at h
 ·have at' : ∀ (l : List Nat) (r : List Value), l.mapM (fun i => w.cell? (a.add i)) = some r → r.length = l.length ∧ ∀ (i k : Nat), l[i]? = some k → ∃ v, r[i]? = some v ∧ w.cell? (a.add k) = some v := by
   intro l
   induction l with
   | nil => intro r h; simp at h; subst h; simp
   | cons x l ih =>
    intro r h
    simp only [List.mapM_cons, Option.bind_eq_bind, Option.bind_eq_some_iff, Option.pure_def, Option.some.injEq] at h
    obtain ⟨v, hv, r', hr', rfl⟩ := h
    obtain ⟨h1, h2⟩ := ih r' hr'
    refine ⟨by simp [h1], fun i k hk => ?_⟩
    cases i with
    | zero => simp at hk; subst hk; exact ⟨v, rfl, hv⟩
    | succ i => simpa using h2 i k (by simpa using hk)
  obtain ⟨hl, hat⟩ := at' _ _ h
  obtain ⟨v0, _, hc0⟩ := hat 0 0 (by simp [hn])
  have e0 : a.add 0 = a := by simp [Addr.add]
  rw [e0] at hc0
  obtain ⟨hs, arr, harr, _⟩ := cell_prot hc0
  refine ⟨hs, arr, harr, ?_, by simpa using hl⟩
  have each : ∀ i, i < n → cs[i]? = arr[a.off + i]? ∧ (arr[a.off + i]?).isSome := by
   intro i hi
   obtain ⟨v, hv, hc⟩ := hat i i (by simp [hi])
   obtain ⟨_, arr', harr', hv'⟩ := cell_prot hc
   have eb : (a.add i).block = a.block := by unfold Addr.add; split <;> rfl
   have eo : (a.add i).off = a.off + i := by unfold Addr.add; split <;> simp_all
   rw [eb, harr] at harr'
   cases harr'
   rw [eo] at hv'
   exact ⟨by rw [hv, hv'], by rw [hv']; rfl⟩
  have hlen : cs.length = n := by simpa using hl
  apply List.ext_getElem?
  intro i
  by_cases hi : i < n
  ·rw [(each i hi).1, List.getElem?_take, if_pos hi, List.getElem?_drop, Array.getElem?_toList]
  ·rw [List.getElem?_eq_none (by omega), List.getElem?_take, if_neg hi]
 ·cases h

theorem mapM_cons_some {α β : Type} {f : α → Option β} {x : α} {l : List α} {r : List β} (h : (x :: l).mapM f = some r) : ∃ y ys, f x = some y ∧ l.mapM f = some ys ∧ r = y :: ys := by
 simp only [List.mapM_cons, Option.bind_eq_bind, Option.bind_eq_some_iff, Option.pure_def, Option.some.injEq] at h
 obtain ⟨y, hy, ys, hys, rfl⟩ := h
 exact ⟨y, ys, hy, hys, rfl⟩

end Go.Eng
