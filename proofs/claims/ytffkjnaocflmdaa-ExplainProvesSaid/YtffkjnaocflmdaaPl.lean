/-
 A small calculus for plain functions that may fail.
-/
import Derived.Test.YtffkjnaocflmdaaE2Run
namespace Go.Dat
open Go.Eng
set_option linter.unusedVariables false

theorem wrap_id {n : Int} (h1 : -9223372036854775808 ≤ n) (h2 : n ≤ 9223372036854775807) : IntKind.wrap .i64 n = n := by
 show (let m := n % (2 ^ 64 : Int); if true && m ≥ (2 ^ 63 : Int) then m - (2 ^ 64 : Int) else m) = n
 simp only [Bool.true_and, ge_iff_le, decide_eq_true_eq]
 split <;> omega
variable {α β σ : Type}
/-- a result, and what holds of it -/
def Ret (o : Option α) (Q : α → Prop) : Prop := ∃ a, o = some a ∧ Q a
theorem ret_some {a : α} {Q : α → Prop} : Ret (some a) Q = Q a := by
 apply propext
 constructor
 ·rintro ⟨b, h, q⟩; cases h; exact q
 ·intro q; exact ⟨a, rfl, q⟩
theorem ret_none {Q : α → Prop} : Ret (none : Option α) Q = False := by
 apply propext
 constructor
 ·rintro ⟨b, h, q⟩; cases h
 ·intro h; exact h.elim
theorem ret_bind {o : Option α} {f : α → Option β} {Q : β → Prop} : Ret (o.bind f) Q = Ret o fun a => Ret (f a) Q := by
 cases o with
 | none => simp only [Option.bind_none, ret_none]
 | some a => simp only [Option.bind_some, ret_some]
theorem ret_map {o : Option α} {f : α → β} {Q : β → Prop} : Ret (o.map f) Q = Ret o fun a => Q (f a) := by
 cases o with
 | none => simp only [Option.map_none, ret_none]
 | some a => simp only [Option.map_some, ret_some]
theorem ret_bif {b : Bool} {x y : Option α} {Q : α → Prop} : Ret (bif b then x else y) Q = ((b = true → Ret x Q) ∧ (b = false → Ret y Q)) := by
 cases b <;> simp
theorem Ret.mono {o : Option α} {Q R : α → Prop} (h : Ret o Q) (i : ∀ a, o = some a → Q a → R a) : Ret o R := by
 obtain ⟨a, e, q⟩ := h; exact ⟨a, e, i a e q⟩
theorem Ret.eq {o : Option α} {a : α} (h : Ret o fun b => b = a) : o = some a := by obtain ⟨b, e, q⟩ := h; rw [e, q]
theorem ret_eq {o : Option α} {a : α} (h : o = some a) {Q : α → Prop} : Ret o Q = Q a := by rw [h, ret_some]

theorem gI_ok {l : List α} {i : Int} (h0 : 0 ≤ i) (h1 : i < l.length) : ∃ x, gI l i = some x ∧ x ∈ l := by
 have h : i.toNat < l.length := by omega
 refine ⟨l[i.toNat], ?_, List.getElem_mem h⟩
 unfold gI; rw [if_pos h0, List.getElem?_eq_getElem h]
theorem gI_nat (l : List α) (k : Nat) : gI l (k : Int) = l[k]? := by
 unfold gI; rw [if_pos (by omega)]; rfl
theorem gI_some {l : List α} {i : Int} {x : α} (h : gI l i = some x) : 0 ≤ i ∧ i < l.length ∧ l[i.toNat]? = some x := by
 unfold gI at h
 split at h
 ·have := (List.getElem?_eq_some_iff.1 h).1; exact ⟨‹_›, by omega, h⟩
 ·cases h
theorem gI_mem {l : List α} {i : Int} {x : α} (h : gI l i = some x) : x ∈ l := List.mem_of_getElem? (gI_some h).2.2
theorem ret_gI {l : List α} {i : Int} {Q : α → Prop} (h0 : 0 ≤ i) (h1 : i < l.length) (h : ∀ x, gI l i = some x → x ∈ l → Q x) : Ret (gI l i) Q := by
 obtain ⟨x, e, m⟩ := gI_ok h0 h1
 exact ⟨x, e, h x e m⟩
theorem setI_len (l : List α) (i : Int) (x : α) : (setI l i x).length = l.length := by simp [setI]
theorem gI_set {l : List α} {i : Int} (x : α) (h0 : 0 ≤ i) (h1 : i < l.length) : gI (setI l i x) i = some x := by
 unfold gI setI; rw [if_pos h0, List.getElem?_set_self (by omega)]
theorem gI_set_ne {l : List α} {i j : Int} (x : α) (h0 : 0 ≤ i) (h : i ≠ j) : gI (setI l i x) j = gI l j := by
 unfold gI setI
 split
 ·rw [List.getElem?_set_ne (by omega)]
 ·rfl

/-! loops -/
theorem loopN_mono {F : σ → Option (σ ⊕ β)} : ∀ {n m : Nat} {s : σ} {b : β}, n ≤ m → loopN F n s = some b → loopN F m s = some b
 | 0, _, _, _, _, h => by cases h
 | n + 1, 0, _, _, hm, _ => by omega
 | n + 1, m + 1, s, b, hm, h => by
  unfold loopN at h ⊢
  cases hF : F s with
  | none => rw [hF] at h; cases h
  | some r =>
   rw [hF] at h
   cases r with
   | inl s' => exact loopN_mono (n := n) (m := m) (by omega) h
   | inr b' => exact h
theorem loopL_of {F : σ → Option (σ ⊕ β)} {n : Nat} {s : σ} {b : β} (h : loopN F n s = some b) : loopL F s = some b := by
 have hex : ∃ b, ∃ n, loopN F n s = some b := ⟨b, n, h⟩
 unfold loopL
 rw [dif_pos hex]
 obtain ⟨m, hm⟩ := hex.choose_spec
 have h1 := loopN_mono (Nat.le_max_left n m) h
 have h2 := loopN_mono (Nat.le_max_right n m) hm
 rw [h1] at h2
 rw [← Option.some.inj h2]
theorem loopL_next {F : σ → Option (σ ⊕ β)} {s s' : σ} (h : F s = some (.inl s')) : loopL F s = loopL F s' := by
 have key : (∃ b, ∃ n, loopN F n s = some b) ↔ ∃ b, ∃ n, loopN F n s' = some b := by
  constructor
  ·rintro ⟨b, n, e⟩
   cases n with
   | zero => cases e
   | succ n =>
    unfold loopN at e; rw [h] at e; exact ⟨b, n, e⟩
  ·rintro ⟨b, n, e⟩
   refine ⟨b, n + 1, ?_⟩
   unfold loopN; rw [h]; exact e
 by_cases hx : ∃ b, ∃ n, loopN F n s' = some b
 ·obtain ⟨b, n, e⟩ := hx
  rw [loopL_of e]
  refine loopL_of (n := n + 1) ?_
  unfold loopN; rw [h]; exact e
 ·have hy : ¬ ∃ b, ∃ n, loopN F n s = some b := fun x => hx (key.1 x)
  unfold loopL
  rw [dif_neg hx, dif_neg hy]
theorem loopL_end {F : σ → Option (σ ⊕ β)} {s : σ} {b : β} (h : F s = some (.inr b)) : loopL F s = some b := loopL_of (n := 1) (by unfold loopN; rw [h]; rfl)

/-- what a step of a loop must do -/
def StepQ (I : σ → Prop) (m : σ → Nat) (Q : β → Prop) (s : σ) : σ ⊕ β → Prop
 | .inl s' => I s' ∧ m s' < m s
 | .inr b => Q b
theorem stepQ_inl {I : σ → Prop} {m : σ → Nat} {Q : β → Prop} {s s' : σ} : StepQ I m Q s (.inl s') = (I s' ∧ m s' < m s) := rfl
theorem stepQ_inr {I : σ → Prop} {m : σ → Nat} {Q : β → Prop} {s : σ} {b : β} : StepQ I m Q s (.inr b) = Q b := rfl
theorem ret_loop {F : σ → Option (σ ⊕ β)} (I : σ → Prop) (m : σ → Nat) {Q : β → Prop} (h : ∀ s, I s → Ret (F s) (StepQ I m Q s)) : ∀ s, I s → Ret (loopL F s) Q := by
 intro s
 induction hn : m s using Nat.strongRecOn generalizing s with
 | _ n ih =>
  intro hI
  obtain ⟨r, e, q⟩ := h s hI
  cases r with
  | inr b => exact ⟨b, loopL_end e, q⟩
  | inl s' =>
   obtain ⟨b, e2, q2⟩ := ih (m s') (by rw [← hn]; exact q.2) s' rfl q.1
   exact ⟨b, by rw [loopL_next e]; exact e2, q2⟩

/-- the rules of the calculus, in one -/
theorem wp : type_of% (And.intro @ret_some (And.intro @ret_none (And.intro @ret_bind (And.intro @ret_map (And.intro @ret_bif (And.intro @decide_eq_true_eq (And.intro @decide_eq_false_iff_not
 (And.intro @stepQ_inl (And.intro @stepQ_inr (And.intro @Bool.not_eq_true' (And.intro @Bool.not_eq_false' (And.intro @beq_iff_eq.{0} (And.intro @bne_iff_ne.{0} (And.intro @beq_eq_false_iff_ne.{0} (And.intro @bne_eq_false_iff_eq.{0}
 (And.intro @Int.not_le (And.intro @Int.not_lt (And.intro @false_implies (And.intro @true_implies (And.intro @and_true (And.intro @true_and
 (And.intro @not_true_eq_false (And.intro @not_false_eq_true (And.intro @decide_true (And.intro @decide_false (And.intro @Bool.not_true @Bool.not_false)))))))))))))))))))))))))) :=
 And.intro @ret_some (And.intro @ret_none (And.intro @ret_bind (And.intro @ret_map (And.intro @ret_bif (And.intro @decide_eq_true_eq (And.intro @decide_eq_false_iff_not
 (And.intro @stepQ_inl (And.intro @stepQ_inr (And.intro @Bool.not_eq_true' (And.intro @Bool.not_eq_false' (And.intro @beq_iff_eq.{0} (And.intro @bne_iff_ne.{0} (And.intro @beq_eq_false_iff_ne.{0} (And.intro @bne_eq_false_iff_eq.{0}
 (And.intro @Int.not_le (And.intro @Int.not_lt (And.intro @false_implies (And.intro @true_implies (And.intro @and_true (And.intro @true_and
 (And.intro @not_true_eq_false (And.intro @not_false_eq_true (And.intro @decide_true (And.intro @decide_false (And.intro @Bool.not_true @Bool.not_false)))))))))))))))))))))))))
end Go.Dat
