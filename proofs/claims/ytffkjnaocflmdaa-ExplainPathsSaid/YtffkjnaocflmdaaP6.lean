/-
  RawSaturation as a plain function: the whole.
-/
import Derived.Test.YtffkjnaocflmdaaP5
namespace Go.Dat
open Go.Eng
set_option linter.unusedSimpArgs false
set_option linter.unusedVariables false

abbrev St13 := Int × Int × Int × Int × Int × (List NodeT) × Int × Int × Int × Int × List StepT
structure StepsQ (l : List StepT) (m : Nat) : Prop where
  len : l.length ≤ m
  sv : ∀ x ∈ l, x.2.2.2.1.length ≤ 2 ∧ x.2.2.2.2 = []
theorem StepsQ.push {l : List StepT} {m : Nat} (h : StepsQ l m) (x : StepT) (h1 : x.2.2.2.1.length ≤ 2) (h2 : x.2.2.2.2 = []) : StepsQ (l ++ [x]) (m + 1) := by
  refine ⟨by have := h.len; simp; omega, fun y hy => ?_⟩
  rcases List.mem_append.1 hy with hy | hy
  · exact h.sv y hy
  · rw [List.mem_singleton.1 hy]; exact ⟨h1, h2⟩
def I13 (s : List NodeT) (q : St13) : Prop := ∃ m : Nat, q.1 = m ∧ m ≤ 16 ∧ q.2.2.2.2.2.1 = s ∧ StepsQ q.2.2.2.2.2.2.2.2.2.2 m
theorem L13_1_ok (steps : List Int) (s : List NodeT) (hs : MutQ s) (q : St13) (h : I13 s q) : Ret (L13_1 steps s q) (StepQ (I13 s) (fun q => 16 - q.1.toNat) RawQ q) := by
  obtain ⟨i', a1, a2, a3, a4, s', b1, b2, b3, b4, l⟩ := q
  obtain ⟨m, e1, hm, e2, hl⟩ := h
  dsimp only at e1 e2 hl
  subst e1 e2
  obtain ⟨n0, n1, nk⟩ := hs
  have fin : Ret (J13_2 steps s' (m : Int) (false, a1, a2, a3, a4, s', b1, b2, b3, b4, l)) (StepQ (I13 s') (fun q => 16 - q.1.toNat) RawQ ((m : Int), a1, a2, a3, a4, s', b1, b2, b3, b4, l)) := by
    simp only [J13_2, ret_some, ret_none, ret_bind, ret_map, ret_bif, Sum.elim_inl, Sum.elim_inr, decide_eq_true_eq, decide_eq_false_iff_not, stepQ_inl, stepQ_inr, Bool.not_eq_true', Bool.not_eq_false', beq_iff_eq, bne_iff_ne, ne_eq, beq_eq_false_iff_ne, bne_eq_false_iff_eq, ge_iff_le, gt_iff_lt, Int.not_le, Int.not_lt, reduceCtorEq, false_implies, true_implies, forall_const, and_true, true_and, Bool.true_eq_false, Bool.false_eq_true, implies_true, not_true_eq_false, not_false_eq_true, decide_true, decide_false, Bool.not_true, Bool.not_false]
    refine Ret.mono (F38_ok s' 1 (by omega) n0) fun v _ hv => Ret.mono (F38_ok s' 2 (by omega) n0) fun w _ hw => ?_
    exact ⟨n0, n1, nk, by have := hl.len; show l.length ≤ 16; omega, hl.sv, rfl, hv, hw⟩
  have hw1 : IntKind.wrap .i64 ((s'.length : Int) + 1) = (s'.length : Int) + 1 := wrap_id (by omega) (by omega)
  have hw2 : IntKind.wrap .i64 ((s'.length : Int) + 2) = (s'.length : Int) + 2 := wrap_id (by omega) (by omega)
  have hw := wrap_succ m (by omega)
  simp only [L13_1, ret_some, ret_none, ret_bind, ret_map, ret_bif, Sum.elim_inl, Sum.elim_inr, decide_eq_true_eq, decide_eq_false_iff_not, stepQ_inl, stepQ_inr, Bool.not_eq_true', Bool.not_eq_false', beq_iff_eq, bne_iff_ne, ne_eq, beq_eq_false_iff_ne, bne_eq_false_iff_eq, ge_iff_le, gt_iff_lt, Int.not_le, Int.not_lt, reduceCtorEq, false_implies, true_implies, forall_const, and_true, true_and, Bool.true_eq_false, Bool.false_eq_true, implies_true, not_true_eq_false, not_false_eq_true, decide_true, decide_false, Bool.not_true, Bool.not_false]
  refine ⟨fun hlt => ?_, fun _ => fin⟩
  by_cases h16 : m < 16
  · rw [show decide ((m : Int) < 16) = true by simp; omega]
    have J : ∀ (c1 c2 c3 c4 : Int) (d1 d2 d3 d4 dd x y z : Int), Ret (J13_3 s' (m : Int) (c1, c2, c3, c4, s', d1, d2, d3, dd, d4, x, y, z, l)) (StepQ (I13 s') (fun q => 16 - q.1.toNat) RawQ ((m : Int), a1, a2, a3, a4, s', b1, b2, b3, b4, l)) := by
      intro c1 c2 c3 c4 d1 d2 d3 d4 dd x y z
      simp only [J13_3, ret_some, ret_none, ret_bind, ret_map, ret_bif, Sum.elim_inl, Sum.elim_inr, decide_eq_true_eq, decide_eq_false_iff_not, stepQ_inl, stepQ_inr, Bool.not_eq_true', Bool.not_eq_false', beq_iff_eq, bne_iff_ne, ne_eq, beq_eq_false_iff_ne, bne_eq_false_iff_eq, ge_iff_le, gt_iff_lt, Int.not_le, Int.not_lt, reduceCtorEq, false_implies, true_implies, forall_const, and_true, true_and, Bool.true_eq_false, Bool.false_eq_true, implies_true, not_true_eq_false, not_false_eq_true, decide_true, decide_false, Bool.not_true, Bool.not_false]
      refine F37_ok (by omega) (by omega) fun r d' r0 r1 => ?_
      refine ret_loop (fun q : Int × Int × Int × Int × Int × (List NodeT) × Int × Int × Int × Int × Int × Int × Int × Int × (List StepT) × List Int => ∃ k : Nat, q.1 = k ∧ q.2.2.2.2.2.1 = s' ∧ q.2.2.2.2.2.2.2.2.2.2.2.2.2.2.1 = l ∧ q.2.2.2.2.2.2.2.2.2.2.2.2.2.2.2.length + k ≤ 2) (fun q => q.1.toNat) ?_ _ ⟨r.toNat, by show r = _; omega, rfl, rfl, by show ([] : List Int).length + _ ≤ 2; simp only [List.length_nil]; omega⟩
      rintro ⟨k', c1, c2, c3, c4, s2, d1, d2, d3, d4, dd, x, y, z, l', vs⟩ ⟨k, e1, e2, e3, e4⟩
      dsimp only at e1 e2 e3 e4
      subst e1 e2 e3
      have hll := hl.len
      simp only [L13_2, ret_some, ret_none, ret_bind, ret_map, ret_bif, Sum.elim_inl, Sum.elim_inr, decide_eq_true_eq, decide_eq_false_iff_not, stepQ_inl, stepQ_inr, Bool.not_eq_true', Bool.not_eq_false', beq_iff_eq, bne_iff_ne, ne_eq, beq_eq_false_iff_ne, bne_eq_false_iff_eq, ge_iff_le, gt_iff_lt, Int.not_le, Int.not_lt, reduceCtorEq, false_implies, true_implies, forall_const, and_true, true_and, Bool.true_eq_false, Bool.false_eq_true, implies_true, not_true_eq_false, not_false_eq_true, decide_true, decide_false, Bool.not_true, Bool.not_false, hw2]
      refine ⟨fun hk => F37_ok (by omega) (by omega) fun r d' r0 r1 => ⟨fun _ => ?_, fun h => absurd h (by simp only [List.length_cons, List.length_nil]; omega)⟩, fun hk => ⟨fun _ => ?_, fun h => absurd h (by simp only [List.length_cons, List.length_nil]; omega)⟩⟩
      · rw [wrap_id (n := (k : Int) - 1) (by omega) (by omega)]
        exact ⟨⟨k - 1, by omega, by simp; omega⟩, by omega⟩
      · rw [hw]
        refine ⟨⟨m + 1, rfl, by omega, rfl, hl.push _ (by show vs.length ≤ 2; omega) rfl⟩, by show 16 - (((m + 1 : Nat) : Int)).toNat < 16 - ((m : Int)).toNat; omega⟩
    simp only [J13_2, ret_some, ret_none, ret_bind, ret_map, ret_bif, Sum.elim_inl, Sum.elim_inr, decide_eq_true_eq, decide_eq_false_iff_not, stepQ_inl, stepQ_inr, Bool.not_eq_true', Bool.not_eq_false', beq_iff_eq, bne_iff_ne, ne_eq, beq_eq_false_iff_ne, bne_eq_false_iff_eq, ge_iff_le, gt_iff_lt, Int.not_le, Int.not_lt, reduceCtorEq, false_implies, true_implies, forall_const, and_true, true_and, Bool.true_eq_false, Bool.false_eq_true, implies_true, not_true_eq_false, not_false_eq_true, decide_true, decide_false, Bool.not_true, Bool.not_false, hw1]
    refine ret_gI (by omega) hlt fun y hy _ => F37_ok (by omega) (by omega) fun r d' r0 r1 => ret_gI r0 (by simp only [List.length_cons, List.length_nil]; omega) fun z hz _ => ?_
    simp only [ret_eq hz]
    refine F37_ok (by omega) (by omega) fun p d'' p0 p1 => F37_ok (by omega) (by omega) fun q d3 q0 q1 => ⟨fun _ => F37_ok (by omega) (by omega) fun t d4 t0 t1 => J _ _ _ _ _ _ _ _ _ _ _ _, fun _ => J _ _ _ _ _ _ _ _ _ _ _ _⟩
  · rw [show decide ((m : Int) < 16) = false by simp; omega]
    exact fin
theorem J13_1_ok (steps : List Int) (c1 c2 c3 c4 d1 d2 d3 d4 : Int) (s : List NodeT) (hs : MutQ s) : Ret (J13_1 steps (c1, c2, c3, c4, s, d1, d2, d3, d4)) RawQ := by
  simp only [J13_1]
  exact ret_loop (I13 s) (fun q => 16 - q.1.toNat) (L13_1_ok steps s hs) _ ⟨0, rfl, by omega, rfl, by simp, fun x hx => by cases hx⟩
theorem F13_ok (l steps : List Int) (how at' : Int) : Ret (F13 l steps how at') RawQ := by
  simp only [F13, ret_some, ret_none, ret_bind, ret_map, ret_bif, Sum.elim_inl, Sum.elim_inr, decide_eq_true_eq, decide_eq_false_iff_not, stepQ_inl, stepQ_inr, Bool.not_eq_true', Bool.not_eq_false', beq_iff_eq, bne_iff_ne, ne_eq, beq_eq_false_iff_ne, bne_eq_false_iff_eq, ge_iff_le, gt_iff_lt, Int.not_le, Int.not_lt, reduceCtorEq, false_implies, true_implies, forall_const, and_true, true_and, Bool.true_eq_false, Bool.false_eq_true, implies_true, not_true_eq_false, not_false_eq_true, decide_true, decide_false, Bool.not_true, Bool.not_false]
  refine Ret.mono (F35_ok l false) fun o _ ho => ?_
  have ol := ho.len
  have l2 : 2 < o.length := (List.getElem?_eq_some_iff.1 ho.h2).1
  refine F15_ok (by omega) (by omega) fun r r0 r1 => ⟨fun _ => ?_, fun _ => ?_⟩
  · exact Ret.mono (F36_ok o _ at' (by omega) (by omega) ho.k) fun o' _ ho' => J13_1_ok _ _ _ _ _ _ _ _ _ _ ho'
  · exact J13_1_ok _ _ _ _ _ _ _ _ _ _ ⟨by omega, by omega, fun x hx => by have := ho.k x hx; omega⟩
end Go.Dat
