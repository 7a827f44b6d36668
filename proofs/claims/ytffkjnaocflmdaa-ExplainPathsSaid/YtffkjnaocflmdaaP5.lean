/-
  RawSaturation as a plain function.
-/
import Derived.Test.YtffkjnaocflmdaaP4
namespace Go.Dat
open Go.Eng
set_option linter.unusedSimpArgs false
set_option linter.unusedVariables false
set_option linter.unusedSectionVars false

theorem F48_ok (a b : NodeT) (ha : a.2.2.length ≤ 1000000) : Ret (F48 a b) fun _ => True := by
  have key : (a.2.2.length : Int) = (b.2.2.length : Int) → Ret (loopL (L48_1 a b) 0) fun _ => True := fun hab => by
    refine ret_loop (fun i : Int => ∃ n : Nat, i = n ∧ n ≤ a.2.2.length) (fun i => a.2.2.length - i.toNat) ?_ _ ⟨0, rfl, by omega⟩
    rintro _ ⟨n, rfl, hn⟩
    simp only [L48_1, ret_some, ret_none, ret_bind, ret_map, ret_bif, Sum.elim_inl, Sum.elim_inr, decide_eq_true_eq, decide_eq_false_iff_not, stepQ_inl, stepQ_inr, Bool.not_eq_true', Bool.not_eq_false', beq_iff_eq, bne_iff_ne, ne_eq, beq_eq_false_iff_ne, bne_eq_false_iff_eq, ge_iff_le, gt_iff_lt, Int.not_le, Int.not_lt, reduceCtorEq, false_implies, true_implies, forall_const, and_true, true_and, Bool.true_eq_false, Bool.false_eq_true, implies_true, not_true_eq_false, not_false_eq_true, decide_true, decide_false, Bool.not_true, Bool.not_false]
    refine fun hlt => ret_gI (by omega) hlt fun y hy hm => ret_gI (by omega) (by omega) fun z hz hm' => ?_
    have hw := wrap_succ n (by omega)
    simp only [ret_some, ret_none, ret_bind, ret_map, ret_bif, Sum.elim_inl, Sum.elim_inr, decide_eq_true_eq, decide_eq_false_iff_not, stepQ_inl, stepQ_inr, Bool.not_eq_true', Bool.not_eq_false', beq_iff_eq, bne_iff_ne, ne_eq, beq_eq_false_iff_ne, bne_eq_false_iff_eq, ge_iff_le, gt_iff_lt, Int.not_le, Int.not_lt, reduceCtorEq, false_implies, true_implies, forall_const, and_true, true_and, Bool.true_eq_false, Bool.false_eq_true, implies_true, not_true_eq_false, not_false_eq_true, decide_true, decide_false, Bool.not_true, Bool.not_false, hw]
    exact fun _ => ⟨⟨n + 1, rfl, by omega⟩, by omega⟩
  simp only [F48, J48_1, ret_some, ret_none, ret_bind, ret_map, ret_bif, Sum.elim_inl, Sum.elim_inr, decide_eq_true_eq, decide_eq_false_iff_not, stepQ_inl, stepQ_inr, Bool.not_eq_true', Bool.not_eq_false', beq_iff_eq, bne_iff_ne, ne_eq, beq_eq_false_iff_ne, bne_eq_false_iff_eq, ge_iff_le, gt_iff_lt, Int.not_le, Int.not_lt, reduceCtorEq, false_implies, true_implies, forall_const, and_true, true_and, Bool.true_eq_false, Bool.false_eq_true, implies_true, not_true_eq_false, not_false_eq_true, decide_true, decide_false, Bool.not_true, Bool.not_false]
  refine fun _ _ => ?_
  exact key
theorem F54_ok (l : List NodeT) (n : NodeT) (hl : l.length ≤ 100000) (hk : ∀ x ∈ l, x.2.2.length ≤ 100000) : Ret (F54 l n) fun _ => True := by
  unfold F54
  refine ret_loop (fun i : Int => ∃ n : Nat, i = n ∧ n ≤ l.length) (fun i => l.length - i.toNat) ?_ _ ⟨0, rfl, by omega⟩
  rintro _ ⟨m, rfl, hm⟩
  simp only [L54_1, ret_some, ret_none, ret_bind, ret_map, ret_bif, Sum.elim_inl, Sum.elim_inr, decide_eq_true_eq, decide_eq_false_iff_not, stepQ_inl, stepQ_inr, Bool.not_eq_true', Bool.not_eq_false', beq_iff_eq, bne_iff_ne, ne_eq, beq_eq_false_iff_ne, bne_eq_false_iff_eq, ge_iff_le, gt_iff_lt, Int.not_le, Int.not_lt, reduceCtorEq, false_implies, true_implies, forall_const, and_true, true_and, Bool.true_eq_false, Bool.false_eq_true, implies_true, not_true_eq_false, not_false_eq_true, decide_true, decide_false, Bool.not_true, Bool.not_false]
  refine fun hlt => ret_gI (by omega) hlt fun y hy hy' => Ret.mono (F48_ok y n (by have := hk y hy'; omega)) fun r _ _ => ?_
  have hw := wrap_succ m (by omega)
  simp only [ret_some, ret_none, ret_bind, ret_map, ret_bif, Sum.elim_inl, Sum.elim_inr, decide_eq_true_eq, decide_eq_false_iff_not, stepQ_inl, stepQ_inr, Bool.not_eq_true', Bool.not_eq_false', beq_iff_eq, bne_iff_ne, ne_eq, beq_eq_false_iff_ne, bne_eq_false_iff_eq, ge_iff_le, gt_iff_lt, Int.not_le, Int.not_lt, reduceCtorEq, false_implies, true_implies, forall_const, and_true, true_and, Bool.true_eq_false, Bool.false_eq_true, implies_true, not_true_eq_false, not_false_eq_true, decide_true, decide_false, Bool.not_true, Bool.not_false, hw]
  exact fun _ => ⟨⟨m + 1, rfl, by omega⟩, by omega⟩
theorem F49_ok (n raw : Int) : Ret (F49 n raw) fun _ => True := by
  simp only [F49, ret_some, ret_none, ret_bind, ret_map, ret_bif, Sum.elim_inl, Sum.elim_inr, decide_eq_true_eq, decide_eq_false_iff_not, stepQ_inl, stepQ_inr, Bool.not_eq_true', Bool.not_eq_false', beq_iff_eq, bne_iff_ne, ne_eq, beq_eq_false_iff_ne, bne_eq_false_iff_eq, ge_iff_le, gt_iff_lt, Int.not_le, Int.not_lt, reduceCtorEq, false_implies, true_implies, forall_const, and_true, true_and, Bool.true_eq_false, Bool.false_eq_true, implies_true, not_true_eq_false, not_false_eq_true, decide_true, decide_false, Bool.not_true, Bool.not_false]
  refine F15_ok (by omega) (by omega) fun r r0 r1 => ⟨fun h => ?_, fun h => ?_⟩
  · refine ret_gI r0 (by simp only [List.length_cons, List.length_nil]; omega) fun y hy _ => ?_
    simp only [ret_eq hy]
  · exact fun _ => F15_ok (by omega) (by omega) fun _ _ _ => trivial
theorem F60_ok (op : Int) : Ret (F60 op) fun _ => True := by
  simp only [F60, J60_1, ret_some, ret_none, ret_bind, ret_map, ret_bif, Sum.elim_inl, Sum.elim_inr, decide_eq_true_eq, decide_eq_false_iff_not, stepQ_inl, stepQ_inr, Bool.not_eq_true', Bool.not_eq_false', beq_iff_eq, bne_iff_ne, ne_eq, beq_eq_false_iff_ne, bne_eq_false_iff_eq, ge_iff_le, gt_iff_lt, Int.not_le, Int.not_lt, reduceCtorEq, false_implies, true_implies, forall_const, and_true, true_and, Bool.true_eq_false, Bool.false_eq_true, implies_true, not_true_eq_false, not_false_eq_true, decide_true, decide_false, Bool.not_true, Bool.not_false]
theorem F52_ok (op k : Int) : Ret (F52 op k) fun r => r = 1 ∨ r = 2 := by
  have t : ∀ b, Ret (J52_1 b) fun r => r = 1 ∨ r = 2 := fun b => by cases b <;> simp [J52_1, ret_some]
  simp only [F52, ret_some, ret_none, ret_bind, ret_map, ret_bif, Sum.elim_inl, Sum.elim_inr, decide_eq_true_eq, decide_eq_false_iff_not, stepQ_inl, stepQ_inr, Bool.not_eq_true', Bool.not_eq_false', beq_iff_eq, bne_iff_ne, ne_eq, beq_eq_false_iff_ne, bne_eq_false_iff_eq, ge_iff_le, gt_iff_lt, Int.not_le, Int.not_lt, reduceCtorEq, false_implies, true_implies, forall_const, and_true, true_and, Bool.true_eq_false, Bool.false_eq_true, implies_true, not_true_eq_false, not_false_eq_true, decide_true, decide_false, Bool.not_true, Bool.not_false]
  exact ⟨fun _ => Ret.mono (F60_ok op) fun r _ _ => ⟨fun _ => t _, fun _ => ⟨fun _ => t _, fun _ => t _⟩⟩, fun _ => t _⟩
theorem F53_ok (x : Int) (l : List Int) : Ret (F53 x l) fun _ => True := by
  simp only [F53, ret_some, ret_none, ret_bind, ret_map, ret_bif, Sum.elim_inl, Sum.elim_inr, decide_eq_true_eq, decide_eq_false_iff_not, stepQ_inl, stepQ_inr, Bool.not_eq_true', Bool.not_eq_false', beq_iff_eq, bne_iff_ne, ne_eq, beq_eq_false_iff_ne, bne_eq_false_iff_eq, ge_iff_le, gt_iff_lt, Int.not_le, Int.not_lt, reduceCtorEq, false_implies, true_implies, forall_const, and_true, true_and, Bool.true_eq_false, Bool.false_eq_true, implies_true, not_true_eq_false, not_false_eq_true, decide_true, decide_false, Bool.not_true, Bool.not_false]
  refine fun h => ret_gI (by omega) (by omega) fun y hy _ => ?_
  simp only [ret_eq hy, ret_some, ret_none, ret_bind, ret_map, ret_bif, Sum.elim_inl, Sum.elim_inr, decide_eq_true_eq, decide_eq_false_iff_not, stepQ_inl, stepQ_inr, Bool.not_eq_true', Bool.not_eq_false', beq_iff_eq, bne_iff_ne, ne_eq, beq_eq_false_iff_ne, bne_eq_false_iff_eq, ge_iff_le, gt_iff_lt, Int.not_le, Int.not_lt, reduceCtorEq, false_implies, true_implies, forall_const, and_true, true_and, Bool.true_eq_false, Bool.false_eq_true, implies_true, not_true_eq_false, not_false_eq_true, decide_true, decide_false, Bool.not_true, Bool.not_false]
  exact fun h => absurd h (by omega)
theorem F37_ok {m d : Int} {Q : Int × Int → Prop} (hm : 0 < m) (h2 : m ≤ 1000000000) (h : ∀ r d', 0 ≤ r → r < m → Q (r, d')) : Ret (F37 m d) Q := by
  simp only [F37, ret_some, ret_none, ret_bind, ret_map, ret_bif, Sum.elim_inl, Sum.elim_inr, decide_eq_true_eq, decide_eq_false_iff_not, stepQ_inl, stepQ_inr, Bool.not_eq_true', Bool.not_eq_false', beq_iff_eq, bne_iff_ne, ne_eq, beq_eq_false_iff_ne, bne_eq_false_iff_eq, ge_iff_le, gt_iff_lt, Int.not_le, Int.not_lt, reduceCtorEq, false_implies, true_implies, forall_const, and_true, true_and, Bool.true_eq_false, Bool.false_eq_true, implies_true, not_true_eq_false, not_false_eq_true, decide_true, decide_false, Bool.not_true, Bool.not_false]
  refine F15_ok hm (by omega) fun r r0 r1 => ⟨by omega, fun _ => h _ _ r0 r1⟩
theorem F38_ok (l : List NodeT) (sort : Int) (hl : l.length ≤ 1000000) (h0 : 0 < l.length) : Ret (F38 l sort) fun r => 0 ≤ r ∧ r < l.length := by
  unfold F38
  rw [wrap_id (by omega) (by omega)]
  refine ret_loop (fun i : Int => -1 ≤ i ∧ i < l.length) (fun i => (i + 1).toNat) ?_ _ (by omega)
  rintro i ⟨h1, h2⟩
  have t : 0 ≤ i → ∀ b, Ret (J38_1 sort i b) (StepQ (fun i : Int => -1 ≤ i ∧ i < l.length) (fun i => (i + 1).toNat) (fun r : Int => 0 ≤ r ∧ r < l.length) i) := fun hi b => by
    cases b <;> simp only [J38_1, ret_some, ret_none, ret_bind, ret_map, ret_bif, Sum.elim_inl, Sum.elim_inr, decide_eq_true_eq, decide_eq_false_iff_not, stepQ_inl, stepQ_inr, Bool.not_eq_true', Bool.not_eq_false', beq_iff_eq, bne_iff_ne, ne_eq, beq_eq_false_iff_ne, bne_eq_false_iff_eq, ge_iff_le, gt_iff_lt, Int.not_le, Int.not_lt, reduceCtorEq, false_implies, true_implies, forall_const, and_true, true_and, Bool.true_eq_false, Bool.false_eq_true, implies_true, not_true_eq_false, not_false_eq_true, decide_true, decide_false, Bool.not_true, Bool.not_false] <;> rw [wrap_id (by omega) (by omega)] <;> exact ⟨fun _ => ⟨by omega, by omega⟩, fun _ => by omega⟩
  simp only [L38_1, ret_some, ret_none, ret_bind, ret_map, ret_bif, Sum.elim_inl, Sum.elim_inr, decide_eq_true_eq, decide_eq_false_iff_not, stepQ_inl, stepQ_inr, Bool.not_eq_true', Bool.not_eq_false', beq_iff_eq, bne_iff_ne, ne_eq, beq_eq_false_iff_ne, bne_eq_false_iff_eq, ge_iff_le, gt_iff_lt, Int.not_le, Int.not_lt, reduceCtorEq, false_implies, true_implies, forall_const, and_true, true_and, Bool.true_eq_false, Bool.false_eq_true, implies_true, not_true_eq_false, not_false_eq_true, decide_true, decide_false, Bool.not_true, Bool.not_false]
  refine ⟨fun hlt => ret_gI (by omega) (by omega) fun y hy hm => ?_, fun _ => by omega⟩
  simp only [ret_eq hy, ret_some, ret_none, ret_bind, ret_map, ret_bif, Sum.elim_inl, Sum.elim_inr, decide_eq_true_eq, decide_eq_false_iff_not, stepQ_inl, stepQ_inr, Bool.not_eq_true', Bool.not_eq_false', beq_iff_eq, bne_iff_ne, ne_eq, beq_eq_false_iff_ne, bne_eq_false_iff_eq, ge_iff_le, gt_iff_lt, Int.not_le, Int.not_lt, reduceCtorEq, false_implies, true_implies, forall_const, and_true, true_and, Bool.true_eq_false, Bool.false_eq_true, implies_true, not_true_eq_false, not_false_eq_true, decide_true, decide_false, Bool.not_true, Bool.not_false, t hlt]

/-- a list of nodes under construction -/
structure Good (l : List NodeT) (m : Nat) : Prop where
  len : l.length ≤ m + 3
  k : ∀ x ∈ l, x.2.2.length ≤ 3
  h0 : l[0]? = some (2, 0, [])
  h2 : l[2]? = some (26, 0, [])
theorem arity_le (op : Int) : (arity op).1 ≤ 3 := by
  unfold arity
  repeat' split
  all_goals simp
theorem Good.push {l : List NodeT} {m : Nat} (h : Good l m) (n : NodeT) (hn : n.2.2.length ≤ 3) : Good (l ++ [n]) (m + 1) := by
  obtain ⟨a, b, c, d⟩ := h
  have l2 : 2 < l.length := (List.getElem?_eq_some_iff.1 d).1
  refine ⟨by simp; omega, fun x hx => ?_, ?_, ?_⟩
  · rcases List.mem_append.1 hx with hx | hx
    · exact b x hx
    · rw [List.mem_singleton.1 hx]; exact hn
  · rw [List.getElem?_append_left (by omega)]; exact c
  · rw [List.getElem?_append_left (by omega)]; exact d
theorem Good.up {l : List NodeT} {m : Nat} (h : Good l m) : Good l (m + 1) := ⟨by have := h.len; omega, h.k, h.h0, h.h2⟩
section
variable (l1 : List Int) (i : Nat) (hi : i < l1.length) (hi2 : i < 14)
  {Q : ((List NodeT) ⊕ ((Int × List NodeT) ⊕ (List NodeT))) → Prop} {out : List NodeT} (hg : Good out i) (hQ : ∀ o, Good o (i + 1) → Q (.inl o))
include hg hQ hi hi2
theorem J35_7_ok (n m : Int) (k : List Int) (hk : k.length ≤ 3) : Ret (J35_7 (out, n, m, k)) Q := by
  simp only [J35_7, ret_some, ret_none, ret_bind, ret_map, ret_bif, Sum.elim_inl, Sum.elim_inr, decide_eq_true_eq, decide_eq_false_iff_not, stepQ_inl, stepQ_inr, Bool.not_eq_true', Bool.not_eq_false', beq_iff_eq, bne_iff_ne, ne_eq, beq_eq_false_iff_ne, bne_eq_false_iff_eq, ge_iff_le, gt_iff_lt, Int.not_le, Int.not_lt, reduceCtorEq, false_implies, true_implies, forall_const, and_true, true_and, Bool.true_eq_false, Bool.false_eq_true, implies_true, not_true_eq_false, not_false_eq_true, decide_true, decide_false, Bool.not_true, Bool.not_false]
  have := hg.len
  refine Ret.mono (F54_ok out _ (by omega) (fun x hx => by have := hg.k x hx; omega)) fun r _ _ => ?_
  exact ⟨fun _ => ⟨fun _ => hQ _ (hg.push _ hk), fun h => absurd h (by simp only [List.length_cons, List.length_nil]; omega)⟩, fun _ => hQ _ hg.up⟩
theorem J35_6_ok (n m : Int) (k : List Int) (hk : k.length ≤ 3) : Ret (J35_6 l1 (i : Int) (out, n, m, k)) Q := by
  have t : ∀ b, Ret (J35_8 l1 (i : Int) (b, out, n, m, k)) fun a => Ret (Sum.elim J35_7 some a) Q := fun b => by
    cases b
    · simp only [J35_8, ret_some, ret_none, ret_bind, ret_map, ret_bif, Sum.elim_inl, Sum.elim_inr, decide_eq_true_eq, decide_eq_false_iff_not, stepQ_inl, stepQ_inr, Bool.not_eq_true', Bool.not_eq_false', beq_iff_eq, bne_iff_ne, ne_eq, beq_eq_false_iff_ne, bne_eq_false_iff_eq, ge_iff_le, gt_iff_lt, Int.not_le, Int.not_lt, reduceCtorEq, false_implies, true_implies, forall_const, and_true, true_and, Bool.true_eq_false, Bool.false_eq_true, implies_true, not_true_eq_false, not_false_eq_true, decide_true, decide_false, Bool.not_true, Bool.not_false]
      exact J35_7_ok l1 i hi hi2 hg hQ n m k hk
    · simp only [J35_8, ret_some, ret_none, ret_bind, ret_map, ret_bif, Sum.elim_inl, Sum.elim_inr, decide_eq_true_eq, decide_eq_false_iff_not, stepQ_inl, stepQ_inr, Bool.not_eq_true', Bool.not_eq_false', beq_iff_eq, bne_iff_ne, ne_eq, beq_eq_false_iff_ne, bne_eq_false_iff_eq, ge_iff_le, gt_iff_lt, Int.not_le, Int.not_lt, reduceCtorEq, false_implies, true_implies, forall_const, and_true, true_and, Bool.true_eq_false, Bool.false_eq_true, implies_true, not_true_eq_false, not_false_eq_true, decide_true, decide_false, Bool.not_true, Bool.not_false]
      refine ret_gI (by omega) (by omega) fun y hy _ => F15_ok (by omega) (by omega) fun r r0 r1 => J35_7_ok l1 i hi hi2 hg hQ n r k hk
  simp only [J35_6, ret_some, ret_none, ret_bind, ret_map, ret_bif, Sum.elim_inl, Sum.elim_inr, decide_eq_true_eq, decide_eq_false_iff_not, stepQ_inl, stepQ_inr, Bool.not_eq_true', Bool.not_eq_false', beq_iff_eq, bne_iff_ne, ne_eq, beq_eq_false_iff_ne, bne_eq_false_iff_eq, ge_iff_le, gt_iff_lt, Int.not_le, Int.not_lt, reduceCtorEq, false_implies, true_implies, forall_const, and_true, true_and, Bool.true_eq_false, Bool.false_eq_true, implies_true, not_true_eq_false, not_false_eq_true, decide_true, decide_false, Bool.not_true, Bool.not_false]
  exact ⟨fun _ => t _, fun _ => t _⟩
theorem J35_5_ok (x n m : Int) (rd : List Int) : Ret (J35_5 l1 (i : Int) (out, x, n, m, rd)) Q := by
  simp only [J35_5, F50_eq, ret_some, ret_none, ret_bind, ret_map, ret_bif, Sum.elim_inl, Sum.elim_inr, decide_eq_true_eq, decide_eq_false_iff_not, stepQ_inl, stepQ_inr, Bool.not_eq_true', Bool.not_eq_false', beq_iff_eq, bne_iff_ne, ne_eq, beq_eq_false_iff_ne, bne_eq_false_iff_eq, ge_iff_le, gt_iff_lt, Int.not_le, Int.not_lt, reduceCtorEq, false_implies, true_implies, forall_const, and_true, true_and, Bool.true_eq_false, Bool.false_eq_true, implies_true, not_true_eq_false, not_false_eq_true, decide_true, decide_false, Bool.not_true, Bool.not_false]
  have har := arity_le n
  have hgl := hg.len
  refine ret_loop (fun q : Int × List NodeT × Int × Int × Int × List Int × List Int => ∃ j : Nat, q.1 = j ∧ q.2.2.2.2.2.2.length = j ∧ (j : Int) ≤ 3 ∧ q.2.1 = out ∧ q.2.2.2.1 = n) (fun q => 3 - q.1.toNat) ?_ _ ⟨0, rfl, rfl, by omega, rfl, rfl⟩
  rintro ⟨j', out', x', n', m', rd', k⟩ ⟨j, e1, e2, e3, e4, e5⟩
  dsimp only at e1 e2 e4 e5
  subst e1 e4 e5
  simp only [L35_2, ret_some, ret_none, ret_bind, ret_map, ret_bif, Sum.elim_inl, Sum.elim_inr, decide_eq_true_eq, decide_eq_false_iff_not, stepQ_inl, stepQ_inr, Bool.not_eq_true', Bool.not_eq_false', beq_iff_eq, bne_iff_ne, ne_eq, beq_eq_false_iff_ne, bne_eq_false_iff_eq, ge_iff_le, gt_iff_lt, Int.not_le, Int.not_lt, reduceCtorEq, false_implies, true_implies, forall_const, and_true, true_and, Bool.true_eq_false, Bool.false_eq_true, implies_true, not_true_eq_false, not_false_eq_true, decide_true, decide_false, Bool.not_true, Bool.not_false]
  refine ⟨fun hlt => Ret.mono (F52_ok _ _) fun so _ hso => Ret.mono (F53_ok _ _) fun rr _ _ => Ret.mono (F51_ok out' (by omega) (fun x hx => by have := hg.k x hx; omega) hg.h0 hg.h2 so rr.1 hso) fun q _ _ => ?_, fun hge => ⟨fun _ => ?_, fun _ => ?_⟩⟩
  · have hw := wrap_succ j (by omega)
    rw [hw]
    exact ⟨fun _ => ⟨⟨j + 1, rfl, by simp; omega, by omega⟩, by omega⟩, fun h => absurd h (by simp only [List.length_cons, List.length_nil]; omega)⟩
  · refine ret_gI (by omega) (by omega) fun y hy _ => F15_ok (by omega) (by omega) fun r r0 r1 => J35_6_ok l1 i hi hi2 hg hQ _ _ k (by omega)
  · exact J35_6_ok l1 i hi hi2 hg hQ _ _ k (by omega)
theorem J35_3_ok (x n m : Int) (rd : List Int) : Ret (J35_3 l1 (i : Int) (out, x, n, m, rd)) Q := by
  simp only [J35_3, ret_some, ret_none, ret_bind, ret_map, ret_bif, Sum.elim_inl, Sum.elim_inr, decide_eq_true_eq, decide_eq_false_iff_not, stepQ_inl, stepQ_inr, Bool.not_eq_true', Bool.not_eq_false', beq_iff_eq, bne_iff_ne, ne_eq, beq_eq_false_iff_ne, bne_eq_false_iff_eq, ge_iff_le, gt_iff_lt, Int.not_le, Int.not_lt, reduceCtorEq, false_implies, true_implies, forall_const, and_true, true_and, Bool.true_eq_false, Bool.false_eq_true, implies_true, not_true_eq_false, not_false_eq_true, decide_true, decide_false, Bool.not_true, Bool.not_false]
  refine ret_gI (by omega) (by omega) fun y hy _ => F15_ok (by omega) (by omega) fun r r0 r1 => ⟨fun _ => ?_, fun _ => ?_⟩
  · simp only [ret_eq hy, ret_some, ret_none, ret_bind, ret_map, ret_bif, Sum.elim_inl, Sum.elim_inr, decide_eq_true_eq, decide_eq_false_iff_not, stepQ_inl, stepQ_inr, Bool.not_eq_true', Bool.not_eq_false', beq_iff_eq, bne_iff_ne, ne_eq, beq_eq_false_iff_ne, bne_eq_false_iff_eq, ge_iff_le, gt_iff_lt, Int.not_le, Int.not_lt, reduceCtorEq, false_implies, true_implies, forall_const, and_true, true_and, Bool.true_eq_false, Bool.false_eq_true, implies_true, not_true_eq_false, not_false_eq_true, decide_true, decide_false, Bool.not_true, Bool.not_false]
    exact Ret.mono (F49_ok _ _) fun w _ _ => J35_5_ok l1 i hi hi2 hg hQ _ _ _ _
  · exact J35_5_ok l1 i hi hi2 hg hQ _ _ _ _
theorem J35_4_ok (b : Bool) (x n m : Int) (rd : List Int) : Ret (J35_4 l1 (i : Int) (b, out, x, n, m, rd)) fun a => Ret (Sum.elim (J35_3 l1 (i : Int)) some a) Q := by
  cases b
  · simp only [J35_4, ret_some, ret_none, ret_bind, ret_map, ret_bif, Sum.elim_inl, Sum.elim_inr, decide_eq_true_eq, decide_eq_false_iff_not, stepQ_inl, stepQ_inr, Bool.not_eq_true', Bool.not_eq_false', beq_iff_eq, bne_iff_ne, ne_eq, beq_eq_false_iff_ne, bne_eq_false_iff_eq, ge_iff_le, gt_iff_lt, Int.not_le, Int.not_lt, reduceCtorEq, false_implies, true_implies, forall_const, and_true, true_and, Bool.true_eq_false, Bool.false_eq_true, implies_true, not_true_eq_false, not_false_eq_true, decide_true, decide_false, Bool.not_true, Bool.not_false]
    exact J35_3_ok l1 i hi hi2 hg hQ _ _ _ _
  · simp only [J35_4, ret_some, ret_none, ret_bind, ret_map, ret_bif, Sum.elim_inl, Sum.elim_inr, decide_eq_true_eq, decide_eq_false_iff_not, stepQ_inl, stepQ_inr, Bool.not_eq_true', Bool.not_eq_false', beq_iff_eq, bne_iff_ne, ne_eq, beq_eq_false_iff_ne, bne_eq_false_iff_eq, ge_iff_le, gt_iff_lt, Int.not_le, Int.not_lt, reduceCtorEq, false_implies, true_implies, forall_const, and_true, true_and, Bool.true_eq_false, Bool.false_eq_true, implies_true, not_true_eq_false, not_false_eq_true, decide_true, decide_false, Bool.not_true, Bool.not_false]
    refine ret_gI (by omega) (by omega) fun y hy _ => F15_ok (by omega) (by omega) fun r r0 r1 => ret_gI r0 (by simp only [List.length_cons, List.length_nil]; omega) fun z hz _ => ?_
    simp only [ret_eq hz, ret_some, ret_none, ret_bind, ret_map, ret_bif, Sum.elim_inl, Sum.elim_inr, decide_eq_true_eq, decide_eq_false_iff_not, stepQ_inl, stepQ_inr, Bool.not_eq_true', Bool.not_eq_false', beq_iff_eq, bne_iff_ne, ne_eq, beq_eq_false_iff_ne, bne_eq_false_iff_eq, ge_iff_le, gt_iff_lt, Int.not_le, Int.not_lt, reduceCtorEq, false_implies, true_implies, forall_const, and_true, true_and, Bool.true_eq_false, Bool.false_eq_true, implies_true, not_true_eq_false, not_false_eq_true, decide_true, decide_false, Bool.not_true, Bool.not_false]
    exact J35_3_ok l1 i hi hi2 hg hQ _ _ _ _
end
theorem F35_ok (l : List Int) (b : Bool) : Ret (F35 l b) fun o => Good o 14 := by
  unfold F35
  refine ret_loop (fun q : Int × List NodeT => ∃ m : Nat, q.1 = m ∧ m ≤ 14 ∧ Good q.2 m) (fun q => 14 - q.1.toNat) ?_ _ ⟨0, rfl, by omega, ?_, ?_, rfl, rfl⟩
  · rintro ⟨i', out⟩ ⟨m, e, hm, hg⟩
    dsimp only at e hg
    subst e
    have up : ∀ k, Good out (m + k) := fun k => by
      induction k with
      | zero => exact hg
      | succ k ih => exact ih.up
    have fin : Ret (J35_1 l b (m : Int) (false, out)) (StepQ (fun q : Int × List NodeT => ∃ m : Nat, q.1 = m ∧ m ≤ 14 ∧ Good q.2 m) (fun q => 14 - q.1.toNat) (fun o => Good o 14) ((m : Int), out)) := by
      simp only [J35_1, ret_some, ret_none, ret_bind, ret_map, ret_bif, Sum.elim_inl, Sum.elim_inr, decide_eq_true_eq, decide_eq_false_iff_not, stepQ_inl, stepQ_inr, Bool.not_eq_true', Bool.not_eq_false', beq_iff_eq, bne_iff_ne, ne_eq, beq_eq_false_iff_ne, bne_eq_false_iff_eq, ge_iff_le, gt_iff_lt, Int.not_le, Int.not_lt, reduceCtorEq, false_implies, true_implies, forall_const, and_true, true_and, Bool.true_eq_false, Bool.false_eq_true, implies_true, not_true_eq_false, not_false_eq_true, decide_true, decide_false, Bool.not_true, Bool.not_false]
      have := up (14 - m)
      rwa [show m + (14 - m) = 14 by omega] at this
    simp only [L35_1, ret_some, ret_none, ret_bind, ret_map, ret_bif, Sum.elim_inl, Sum.elim_inr, decide_eq_true_eq, decide_eq_false_iff_not, stepQ_inl, stepQ_inr, Bool.not_eq_true', Bool.not_eq_false', beq_iff_eq, bne_iff_ne, ne_eq, beq_eq_false_iff_ne, bne_eq_false_iff_eq, ge_iff_le, gt_iff_lt, Int.not_le, Int.not_lt, reduceCtorEq, false_implies, true_implies, forall_const, and_true, true_and, Bool.true_eq_false, Bool.false_eq_true, implies_true, not_true_eq_false, not_false_eq_true, decide_true, decide_false, Bool.not_true, Bool.not_false]
    refine ⟨fun hlt => ?_, fun _ => fin⟩
    by_cases h14 : m < 14
    · have hw := wrap_succ m (by omega)
      rw [show decide ((m : Int) < 14) = true by simp; omega]
      simp only [J35_1, ret_some, ret_none, ret_bind, ret_map, ret_bif, Sum.elim_inl, Sum.elim_inr, decide_eq_true_eq, decide_eq_false_iff_not, stepQ_inl, stepQ_inr, Bool.not_eq_true', Bool.not_eq_false', beq_iff_eq, bne_iff_ne, ne_eq, beq_eq_false_iff_ne, bne_eq_false_iff_eq, ge_iff_le, gt_iff_lt, Int.not_le, Int.not_lt, reduceCtorEq, false_implies, true_implies, forall_const, and_true, true_and, Bool.true_eq_false, Bool.false_eq_true, implies_true, not_true_eq_false, not_false_eq_true, decide_true, decide_false, Bool.not_true, Bool.not_false]
      refine ret_gI (by omega) hlt fun y hy _ => ?_
      simp only [ret_eq hy, ret_some, ret_none, ret_bind, ret_map, ret_bif, Sum.elim_inl, Sum.elim_inr, decide_eq_true_eq, decide_eq_false_iff_not, stepQ_inl, stepQ_inr, Bool.not_eq_true', Bool.not_eq_false', beq_iff_eq, bne_iff_ne, ne_eq, beq_eq_false_iff_ne, bne_eq_false_iff_eq, ge_iff_le, gt_iff_lt, Int.not_le, Int.not_lt, reduceCtorEq, false_implies, true_implies, forall_const, and_true, true_and, Bool.true_eq_false, Bool.false_eq_true, implies_true, not_true_eq_false, not_false_eq_true, decide_true, decide_false, Bool.not_true, Bool.not_false]
      refine F15_ok (by omega) (by omega) fun r r0 r1 => ?_
      have J := fun b x n m' rd => J35_4_ok l m (by omega) h14 (Q := fun a => Ret (Sum.elim (J35_2 (m : Int)) some a) (StepQ (fun q : Int × List NodeT => ∃ m : Nat, q.1 = m ∧ m ≤ 14 ∧ Good q.2 m) (fun q => 14 - q.1.toNat) (fun o => Good o 14) ((m : Int), out))) hg (fun o ho => by
        simp only [J35_2, ret_some, ret_none, ret_bind, ret_map, ret_bif, Sum.elim_inl, Sum.elim_inr, decide_eq_true_eq, decide_eq_false_iff_not, stepQ_inl, stepQ_inr, Bool.not_eq_true', Bool.not_eq_false', beq_iff_eq, bne_iff_ne, ne_eq, beq_eq_false_iff_ne, bne_eq_false_iff_eq, ge_iff_le, gt_iff_lt, Int.not_le, Int.not_lt, reduceCtorEq, false_implies, true_implies, forall_const, and_true, true_and, Bool.true_eq_false, Bool.false_eq_true, implies_true, not_true_eq_false, not_false_eq_true, decide_true, decide_false, Bool.not_true, Bool.not_false, hw]
        exact ⟨⟨m + 1, rfl, by omega, ho⟩, by omega⟩) b x n m' rd
      exact ⟨fun _ => F15_ok (by omega) (by omega) fun _ _ _ => J _ _ _ _ _, fun _ => J _ _ _ _ _⟩
    · rw [show decide ((m : Int) < 14) = false by simp; omega]
      exact fin
  · simp
  · intro x hx
    simp at hx
    rcases hx with rfl | rfl | rfl <;> simp

/-- what the laws are tried on -/
structure RawQ (s : SatT) : Prop where
  n0 : 0 < s.1.length
  n1 : s.1.length ≤ 18
  nk : ∀ x ∈ s.1, x.2.2.length ≤ 4
  sl : s.2.1.length ≤ 16
  sv : ∀ x ∈ s.2.1, x.2.2.2.1.length ≤ 2 ∧ x.2.2.2.2 = []
  inv : s.2.2.1 = []
  va : 0 ≤ s.2.2.2.1 ∧ s.2.2.2.1 < s.1.length
  st : 0 ≤ s.2.2.2.2.1 ∧ s.2.2.2.2.1 < s.1.length
structure MutQ (o : List NodeT) : Prop where
  n0 : 0 < o.length
  n1 : o.length ≤ 18
  nk : ∀ x ∈ o, x.2.2.length ≤ 4
theorem setI_mem {α : Type} {l : List α} {i : Int} {x y : α} (h : y ∈ setI l i x) : y ∈ l ∨ y = x := by
  unfold setI at h; exact List.mem_or_eq_of_mem_set h
theorem F36_ok (l : List NodeT) (how at' : Int) (h0 : 0 < l.length) (h1 : l.length ≤ 17) (hk : ∀ x ∈ l, x.2.2.length ≤ 3) : Ret (F36 l how at') MutQ := by
  have J : ∀ (r : Int) (o : List NodeT) (a b : Int) (k : List Int), 0 ≤ r → r < o.length → o.length ≤ 18 → (∀ x ∈ o, x.2.2.length ≤ 4) → k.length ≤ 4 → Ret (J36_1 r (o, a, b, k)) MutQ := by
    intro r o a b k r0 r1 ol ok hk
    simp only [J36_1, ret_some, ret_none, ret_bind, ret_map, ret_bif, Sum.elim_inl, Sum.elim_inr, decide_eq_true_eq, decide_eq_false_iff_not, stepQ_inl, stepQ_inr, Bool.not_eq_true', Bool.not_eq_false', beq_iff_eq, bne_iff_ne, ne_eq, beq_eq_false_iff_ne, bne_eq_false_iff_eq, ge_iff_le, gt_iff_lt, Int.not_le, Int.not_lt, reduceCtorEq, false_implies, true_implies, forall_const, and_true, true_and, Bool.true_eq_false, Bool.false_eq_true, implies_true, not_true_eq_false, not_false_eq_true, decide_true, decide_false, Bool.not_true, Bool.not_false]
    refine ret_gI r0 r1 fun y hy _ => ?_
    simp only [ret_eq hy]
    refine ⟨by rw [setI_len]; omega, by rw [setI_len]; omega, fun x hx => ?_⟩
    rcases setI_mem hx with hx | rfl
    · exact ok x hx
    · exact hk
  simp only [F36, List.nil_append, List.length_nil, ret_some, ret_none, ret_bind, ret_map, ret_bif, Sum.elim_inl, Sum.elim_inr, decide_eq_true_eq, decide_eq_false_iff_not, stepQ_inl, stepQ_inr, Bool.not_eq_true', Bool.not_eq_false', beq_iff_eq, bne_iff_ne, ne_eq, beq_eq_false_iff_ne, bne_eq_false_iff_eq, ge_iff_le, gt_iff_lt, Int.not_le, Int.not_lt, reduceCtorEq, false_implies, true_implies, forall_const, and_true, true_and, Bool.true_eq_false, Bool.false_eq_true, implies_true, not_true_eq_false, not_false_eq_true, decide_true, decide_false, Bool.not_true, Bool.not_false]
  refine ⟨fun _ => ⟨fun h => by omega, fun _ => ?_⟩, fun h => by omega⟩
  refine F15_ok (by omega) (by omega) fun r r0 r1 => ret_gI r0 r1 fun y hy hm => ?_
  have hyk := hk y hm
  have hk4 : ∀ x ∈ l, x.2.2.length ≤ 4 := fun x hx => by have := hk x hx; omega
  have hw2 : IntKind.wrap .i64 ((l.length : Int) + 2) = (l.length : Int) + 2 := wrap_id (by omega) (by omega)
  simp only [ret_eq hy, ret_some, ret_none, ret_bind, ret_map, ret_bif, Sum.elim_inl, Sum.elim_inr, decide_eq_true_eq, decide_eq_false_iff_not, stepQ_inl, stepQ_inr, Bool.not_eq_true', Bool.not_eq_false', beq_iff_eq, bne_iff_ne, ne_eq, beq_eq_false_iff_ne, bne_eq_false_iff_eq, ge_iff_le, gt_iff_lt, Int.not_le, Int.not_lt, reduceCtorEq, false_implies, true_implies, forall_const, and_true, true_and, Bool.true_eq_false, Bool.false_eq_true, implies_true, not_true_eq_false, not_false_eq_true, decide_true, decide_false, Bool.not_true, Bool.not_false, hw2]
  refine ⟨fun _ => ?_, fun h => by omega⟩
  refine F15_ok (by omega) (by omega) fun q q0 q1 => ⟨fun _ => ?_, fun _ => ⟨fun _ => ?_, fun _ => ⟨fun _ => ?_, fun _ => ⟨fun _ => ⟨fun _ => ?_, fun _ => ?_⟩, fun _ => ⟨fun _ => ⟨fun _ => ⟨fun _ => ?_, fun _ => ?_⟩, fun _ => ?_⟩, fun _ => ⟨fun _ => ⟨fun _ => ?_, fun _ => ?_⟩, fun _ => ⟨fun _ => ?_, fun _ => ?_⟩⟩⟩⟩⟩⟩⟩
  · exact F15_ok (by omega) (by omega) fun _ _ _ => J _ _ _ _ _ r0 r1 (by omega) hk4 (by omega)
  · exact F15_ok (by omega) (by omega) fun _ _ _ => J _ _ _ _ _ r0 r1 (by omega) hk4 (by omega)
  · refine F15_ok (by omega) (by omega) fun _ _ _ => ⟨fun _ => J _ _ _ _ _ r0 r1 (by omega) hk4 (by simp; omega), fun h => absurd h (by simp only [List.length_cons, List.length_nil]; omega)⟩
  · refine F15_ok (by omega) (by omega) fun p p0 p1 => F15_ok (by omega) (by omega) fun _ _ _ => ret_gI p0 p1 fun z hz _ => ?_
    simp only [ret_eq hz]
    exact J _ _ _ _ _ r0 r1 (by omega) hk4 (by rw [setI_len]; omega)
  · exact J _ _ _ _ _ r0 r1 (by omega) hk4 (by omega)
  · exact J _ _ _ _ _ r0 r1 (by omega) hk4 (by have := slI_le y.2.2 1 (y.2.2.length : Int); omega)
  · omega
  · exact J _ _ _ _ _ r0 r1 (by omega) hk4 (by omega)
  · refine J _ _ _ _ _ r0 (by simp; omega) (by simp; omega) (fun x hx => ?_) (by omega)
    rcases List.mem_append.1 hx with hx | hx
    · exact hk4 x hx
    · rw [List.mem_singleton.1 hx]; show y.2.2.length ≤ 4; omega
  · exact absurd ‹_› (by simp only [List.length_cons, List.length_nil]; omega)
  · exact F15_ok (by omega) (by omega) fun _ _ _ => J _ _ _ _ _ r0 r1 (by omega) hk4 (by simp)
  · exact J _ _ _ _ _ r0 r1 (by omega) hk4 (by omega)
end Go.Dat
