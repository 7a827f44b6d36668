/-
  The nodes that the laws are tried on.
-/
import Derived.Test.YtffkjnaocflmdaaP2
namespace Go.Dat
open Go.Eng
set_option linter.unusedSimpArgs false
set_option linter.unusedVariables false

theorem F63_eq (ok : Bool) (n : Int) : F63 ok n = some (bif ok then n else 0) := by cases ok <;> rfl
theorem F64_ok (k : List Int) (h : k.length ≤ 1000000) : Ret (F64 k) fun _ => True := by
  unfold F64
  refine ret_loop (fun i : Int => ∃ n : Nat, i = n ∧ n ≤ k.length) (fun i => k.length - i.toNat) ?_ _ ⟨0, rfl, by omega⟩
  rintro _ ⟨n, rfl, hn⟩
  simp only [L64_1, ret_some, ret_none, ret_bind, ret_map, ret_bif, Sum.elim_inl, Sum.elim_inr, decide_eq_true_eq, decide_eq_false_iff_not, stepQ_inl, stepQ_inr, Bool.not_eq_true', Bool.not_eq_false', beq_iff_eq, bne_iff_ne, ne_eq, beq_eq_false_iff_ne, bne_eq_false_iff_eq, ge_iff_le, gt_iff_lt, Int.not_le, Int.not_lt, reduceCtorEq, false_implies, true_implies, forall_const, and_true, true_and, Bool.true_eq_false, Bool.false_eq_true, implies_true, not_true_eq_false, not_false_eq_true, decide_true, decide_false, Bool.not_true, Bool.not_false]
  refine fun hlt => ret_gI (by omega) hlt fun y hy hm => ?_
  have hw := wrap_succ n (by omega)
  simp only [ret_some, ret_none, ret_bind, ret_map, ret_bif, Sum.elim_inl, Sum.elim_inr, decide_eq_true_eq, decide_eq_false_iff_not, stepQ_inl, stepQ_inr, Bool.not_eq_true', Bool.not_eq_false', beq_iff_eq, bne_iff_ne, ne_eq, beq_eq_false_iff_ne, bne_eq_false_iff_eq, ge_iff_le, gt_iff_lt, Int.not_le, Int.not_lt, reduceCtorEq, false_implies, true_implies, forall_const, and_true, true_and, Bool.true_eq_false, Bool.false_eq_true, implies_true, not_true_eq_false, not_false_eq_true, decide_true, decide_false, Bool.not_true, Bool.not_false, hw]
  exact fun _ => ⟨⟨n + 1, rfl, by omega⟩, by omega⟩
theorem F64_nil : F64 [] = some true := by
  unfold F64
  exact loopL_end rfl
theorem F65_ok (op : Int) : Ret (F65 op) fun _ => True := by
  simp only [F65, J65_1, ret_some, ret_none, ret_bind, ret_map, ret_bif, Sum.elim_inl, Sum.elim_inr, decide_eq_true_eq, decide_eq_false_iff_not, stepQ_inl, stepQ_inr, Bool.not_eq_true', Bool.not_eq_false', beq_iff_eq, bne_iff_ne, ne_eq, beq_eq_false_iff_ne, bne_eq_false_iff_eq, ge_iff_le, gt_iff_lt, Int.not_le, Int.not_lt, reduceCtorEq, false_implies, true_implies, forall_const, and_true, true_and, Bool.true_eq_false, Bool.false_eq_true, implies_true, not_true_eq_false, not_false_eq_true, decide_true, decide_false, Bool.not_true, Bool.not_false]
theorem F62_ok (op n : Int) : Ret (F62 op n) fun _ => True := by
  simp only [F62, ret_some, ret_none, ret_bind, ret_map, ret_bif, Sum.elim_inl, Sum.elim_inr, decide_eq_true_eq, decide_eq_false_iff_not, stepQ_inl, stepQ_inr, Bool.not_eq_true', Bool.not_eq_false', beq_iff_eq, bne_iff_ne, ne_eq, beq_eq_false_iff_ne, bne_eq_false_iff_eq, ge_iff_le, gt_iff_lt, Int.not_le, Int.not_lt, reduceCtorEq, false_implies, true_implies, forall_const, and_true, true_and, Bool.true_eq_false, Bool.false_eq_true, implies_true, not_true_eq_false, not_false_eq_true, decide_true, decide_false, Bool.not_true, Bool.not_false]
  refine fun _ => Ret.mono (F65_ok op) fun r _ _ => ?_
  simp only [J62_1, ret_some, ret_none, ret_bind, ret_map, ret_bif, Sum.elim_inl, Sum.elim_inr, decide_eq_true_eq, decide_eq_false_iff_not, stepQ_inl, stepQ_inr, Bool.not_eq_true', Bool.not_eq_false', beq_iff_eq, bne_iff_ne, ne_eq, beq_eq_false_iff_ne, bne_eq_false_iff_eq, ge_iff_le, gt_iff_lt, Int.not_le, Int.not_lt, reduceCtorEq, false_implies, true_implies, forall_const, and_true, true_and, Bool.true_eq_false, Bool.false_eq_true, implies_true, not_true_eq_false, not_false_eq_true, decide_true, decide_false, Bool.not_true, Bool.not_false]
/-- the number of kids of an operation -/
def arity (op : Int) : Int × Bool :=
  if op = 1 ∨ op = 2 ∨ op = 3 ∨ op = 26 then (0, true) else
  if op = 20 ∨ op = 21 ∨ op = 24 ∨ op = 25 then (1, true) else
  if (4 ≤ op ∧ op ≤ 19) ∨ op = 23 ∨ op = 27 ∨ op = 29 then (2, true) else
  if op = 22 ∨ op = 28 then (3, true) else
  if op = 30 ∨ op = 31 then (-1, true) else (0, false)
theorem F50_eq (op : Int) : F50 op = some (arity op) := by
  refine Ret.eq ?_
  simp only [F50, J50_1, J50_2, J50_3, J50_4, J50_5, ret_some, ret_none, ret_bind, ret_map, ret_bif, Sum.elim_inl, Sum.elim_inr, decide_eq_true_eq, decide_eq_false_iff_not, stepQ_inl, stepQ_inr, Bool.not_eq_true', Bool.not_eq_false', beq_iff_eq, bne_iff_ne, ne_eq, beq_eq_false_iff_ne, bne_eq_false_iff_eq, ge_iff_le, gt_iff_lt, Int.not_le, Int.not_lt, reduceCtorEq, false_implies, true_implies, forall_const, and_true, true_and, Bool.true_eq_false, Bool.false_eq_true, implies_true, not_true_eq_false, not_false_eq_true, decide_true, decide_false, Bool.not_true, Bool.not_false, arity]
  refine ⟨fun h => ?_, fun h => ?_⟩ <;> (repeat' first | apply And.intro | intro _) <;> (repeat' split) <;> first | rfl | (exfalso; omega)
theorem slI_le {α : Type} (l : List α) (a b : Int) : (slI l a b).length ≤ l.length := by
  unfold slI; simp; omega
theorem J61_ok (l : List NodeT) (n : NodeT) (k : List Int) (hk : k.length = n.2.2.length) (hl : k.length ≤ 1000000) (hkid : ∀ x ∈ n.2.2, 0 ≤ x ∧ x < l.length) (hb : ∀ x ∈ l, x.2.2.length ≤ 1000000) (ha : (arity n.1).2 = true) (hr : 0 ≤ (arity n.1).1 → (n.2.2.length : Int) = (arity n.1).1) : Ret (J61_1 l n k false) fun _ => True := by
  have h22 : n.1 = 22 → k.length = 3 := fun h => by rw [h] at hr; have := hr (by decide); rw [show (arity 22).1 = 3 from rfl] at this; omega
  have h28 : n.1 = 28 → k.length = 3 := fun h => by rw [h] at hr; have := hr (by decide); rw [show (arity 28).1 = 3 from rfl] at this; omega
  have h23 : n.1 = 23 → k.length = 2 := fun h => by rw [h] at hr; have := hr (by decide); rw [show (arity 23).1 = 2 from rfl] at this; omega
  have h27 : n.1 = 27 → k.length = 2 := fun h => by rw [h] at hr; have := hr (by decide); rw [show (arity 27).1 = 2 from rfl] at this; omega
  have h29 : n.1 = 29 → k.length = 2 := fun h => by rw [h] at hr; have := hr (by decide); rw [show (arity 29).1 = 2 from rfl] at this; omega
  have h24 : n.1 = 24 → k.length = 1 := fun h => by rw [h] at hr; have := hr (by decide); rw [show (arity 24).1 = 1 from rfl] at this; omega
  have h25 : n.1 = 25 → k.length = 1 := fun h => by rw [h] at hr; have := hr (by decide); rw [show (arity 25).1 = 1 from rfl] at this; omega
  have hd : Int.tdiv (k.length : Int) 2 = ((k.length / 2 : Nat) : Int) := by rw [Int.tdiv_eq_ediv_of_nonneg (by omega)]; rfl
  have hm : Int.tmod (k.length : Int) 2 = ((k.length % 2 : Nat) : Int) := by rw [Int.tmod_eq_emod_of_nonneg (by omega)]; rfl
  have hq : IntKind.wrap .i64 ((k.length / 2 : Nat) : Int) = ((k.length / 2 : Nat) : Int) := wrap_id (by omega) (by omega)
  have hq1 : IntKind.wrap .i64 (((k.length / 2 : Nat) : Int) + 1) = ((k.length / 2 + 1 : Nat) : Int) := wrap_succ _ (by omega)
  have hq2 : IntKind.wrap .i64 (((k.length / 2 : Nat) : Int) + 2) = ((k.length / 2 + 2 : Nat) : Int) := by rw [wrap_id (by omega) (by omega)]; omega
  have h64 : ∀ a b : Int, Ret (F64 (slI k a b)) fun _ => True := fun a b => F64_ok _ (by have := slI_le k a b; omega)
  have h64' : Ret (F64 k) fun _ => True := F64_ok _ hl
  simp only [J61_1, J61_2, J61_3, J61_4, J61_5, J61_6, J61_7, J61_8, J61_9, F63_eq, ret_some, ret_none, ret_bind, ret_map, ret_bif, Sum.elim_inl, Sum.elim_inr, decide_eq_true_eq, decide_eq_false_iff_not, stepQ_inl, stepQ_inr, Bool.not_eq_true', Bool.not_eq_false', beq_iff_eq, bne_iff_ne, ne_eq, beq_eq_false_iff_ne, bne_eq_false_iff_eq, ge_iff_le, gt_iff_lt, Int.not_le, Int.not_lt, reduceCtorEq, false_implies, true_implies, forall_const, and_true, true_and, Bool.true_eq_false, Bool.false_eq_true, implies_true, not_true_eq_false, not_false_eq_true, decide_true, decide_false, Bool.not_true, Bool.not_false, hd, hm, hq, hq1, hq2, h64, h64']
  have hkid0 : n.1 = 25 → Ret (gI n.2.2 0) fun a => Ret (gI l a) fun a => True := fun h => ret_gI (by omega) (by have := h25 h; omega) fun x _ hx => ret_gI (hkid x hx).1 (hkid x hx).2 fun _ _ _ => trivial
  repeat' first | apply And.intro | (intro _) | exact hkid0 ‹_› | exact F64_ok _ hl | refine Ret.mono (h64 _ _) fun _ _ _ => ?_ | refine ret_gI (by omega) (by omega) fun _ _ _ => ?_ | trivial | omega
theorem F61_ok (l : List NodeT) (n : NodeT) (k : List Int) (hk : k.length = n.2.2.length) (hl : k.length ≤ 1000000) (hkid : ∀ x ∈ n.2.2, 0 ≤ x ∧ x < l.length) (hb : ∀ x ∈ l, x.2.2.length ≤ 1000000) : Ret (F61 l n k) fun _ => True := by
  have ht : Ret (J61_1 l n k true) fun _ => True := by simp only [J61_1, ret_some, ret_none, ret_bind, ret_map, ret_bif, Sum.elim_inl, Sum.elim_inr, decide_eq_true_eq, decide_eq_false_iff_not, stepQ_inl, stepQ_inr, Bool.not_eq_true', Bool.not_eq_false', beq_iff_eq, bne_iff_ne, ne_eq, beq_eq_false_iff_ne, bne_eq_false_iff_eq, ge_iff_le, gt_iff_lt, Int.not_le, Int.not_lt, reduceCtorEq, false_implies, true_implies, forall_const, and_true, true_and, Bool.true_eq_false, Bool.false_eq_true, implies_true, not_true_eq_false, not_false_eq_true, decide_true, decide_false, Bool.not_true, Bool.not_false]
  have hf := J61_ok l n k hk hl hkid hb
  simp only [F61, F50_eq, ret_some, ret_none, ret_bind, ret_map, ret_bif, Sum.elim_inl, Sum.elim_inr, decide_eq_true_eq, decide_eq_false_iff_not, stepQ_inl, stepQ_inr, Bool.not_eq_true', Bool.not_eq_false', beq_iff_eq, bne_iff_ne, ne_eq, beq_eq_false_iff_ne, bne_eq_false_iff_eq, ge_iff_le, gt_iff_lt, Int.not_le, Int.not_lt, reduceCtorEq, false_implies, true_implies, forall_const, and_true, true_and, Bool.true_eq_false, Bool.false_eq_true, implies_true, not_true_eq_false, not_false_eq_true, decide_true, decide_false, Bool.not_true, Bool.not_false]
  refine ⟨fun _ => ht, fun h1 => ⟨fun h2 => ⟨fun _ => ht, fun h3 => ?_⟩, fun h2 => ?_⟩⟩
  · refine Ret.mono (F62_ok _ _) fun b _ _ => ?_
    cases b
    · exact ht
    · exact hf h1 (fun _ => h3)
  · refine Ret.mono (F62_ok _ _) fun b _ _ => ?_
    cases b
    · exact ht
    · exact hf h1 (fun h => by omega)
end Go.Dat
