/-
  The sorts of nodes, and nodes of a sort.
-/
import Derived.Test.YtffkjnaocflmdaaP3
namespace Go.Dat
open Go.Eng
set_option linter.unusedSimpArgs false
set_option linter.unusedVariables false

theorem F61_par (l : List NodeT) (m : Int) (hm : m = 0 ∨ m = 1) : F61 l (2, m, []) [] = some 1 := by
  rcases hm with rfl | rfl <;> simp [F61, F50_eq, arity, F62, F65, J62_1, J61_1, J61_5, F63, F64_nil]
theorem F61_ent (l : List NodeT) : F61 l (26, 0, []) [] = some 2 := by
  simp [F61, F50_eq, arity, F62, F65, J65_1, J62_1, J61_1, J61_5, F63, F64_nil]
/-- the operands of a node lie below i -/
def KidsIn (n : NodeT) (i : Int) : Prop := ∀ x ∈ n.2.2, 0 ≤ x ∧ x < i
theorem loop59 (l : List NodeT) (hk : ∀ x ∈ l, x.2.2.length ≤ 100000) (i : Nat) (n : NodeT) (hn : l[i]? = some n) (out : List Int) (ho : out.length = i)
    {Q : (Bool × List Int × List Int) ⊕ ((List Int) ⊕ ((Int × List Int) ⊕ (List Int))) → Prop} (hQ : ∀ ok k, (ok = true → k.length = n.2.2.length ∧ KidsIn n i) → (n.2.2 = [] → ok = true ∧ k = []) → Q (.inl (ok, out, k))) :
    Ret (loopL (L59_2 l (i : Int)) (true, 0, out, [])) Q := by
  have hb := hk n (List.mem_of_getElem? hn)
  refine ret_loop (fun q : Bool × Int × List Int × List Int => q.1 = true ∧ q.2.2.1 = out ∧ ∃ j : Nat, q.2.1 = j ∧ j ≤ n.2.2.length ∧ q.2.2.2.length = j ∧ ∀ (p : Nat) x, p < j → n.2.2[p]? = some x → 0 ≤ x ∧ x < (i : Int)) (fun q => n.2.2.length - q.2.1.toNat) ?_ _ ⟨rfl, rfl, 0, rfl, by omega, rfl, fun p x hp => by omega⟩
  rintro ⟨ok, j', out', k⟩ ⟨h1, h2, j, h3, hj, h4, hin⟩
  dsimp only at h1 h2 h3 h4
  subst h1 h2 h3
  have hg : gI l (i : Int) = some n := by rw [gI_nat, hn]
  simp only [L59_2, ret_some, ret_none, ret_bind, ret_map, ret_bif, Sum.elim_inl, Sum.elim_inr, decide_eq_true_eq, decide_eq_false_iff_not, stepQ_inl, stepQ_inr, Bool.not_eq_true', Bool.not_eq_false', beq_iff_eq, bne_iff_ne, ne_eq, beq_eq_false_iff_ne, bne_eq_false_iff_eq, ge_iff_le, gt_iff_lt, Int.not_le, Int.not_lt, reduceCtorEq, false_implies, true_implies, forall_const, and_true, true_and, Bool.true_eq_false, Bool.false_eq_true, implies_true, not_true_eq_false, not_false_eq_true, decide_true, decide_false, Bool.not_true, Bool.not_false, ret_eq hg]
  refine ⟨fun hlt => ret_gI (by omega) hlt fun y hy hm => ?_, fun hge => ?_⟩
  · have hbad : Q (.inl (false, out', k)) := hQ _ _ (fun h => by cases h) (fun h => by rw [h] at hm; cases hm)
    rw [gI_nat] at hy
    simp only [J59_3, ret_some, ret_none, ret_bind, ret_map, ret_bif, Sum.elim_inl, Sum.elim_inr, decide_eq_true_eq, decide_eq_false_iff_not, stepQ_inl, stepQ_inr, Bool.not_eq_true', Bool.not_eq_false', beq_iff_eq, bne_iff_ne, ne_eq, beq_eq_false_iff_ne, bne_eq_false_iff_eq, ge_iff_le, gt_iff_lt, Int.not_le, Int.not_lt, reduceCtorEq, false_implies, true_implies, forall_const, and_true, true_and, Bool.true_eq_false, Bool.false_eq_true, implies_true, not_true_eq_false, not_false_eq_true, decide_true, decide_false, Bool.not_true, Bool.not_false]
    refine ⟨fun _ => hbad, fun h0 => ⟨fun _ => hbad, fun h1 => ret_gI h0 (by omega) fun z hz _ => ?_⟩⟩
    simp only [ret_eq hz, ret_some, ret_none, ret_bind, ret_map, ret_bif, Sum.elim_inl, Sum.elim_inr, decide_eq_true_eq, decide_eq_false_iff_not, stepQ_inl, stepQ_inr, Bool.not_eq_true', Bool.not_eq_false', beq_iff_eq, bne_iff_ne, ne_eq, beq_eq_false_iff_ne, bne_eq_false_iff_eq, ge_iff_le, gt_iff_lt, Int.not_le, Int.not_lt, reduceCtorEq, false_implies, true_implies, forall_const, and_true, true_and, Bool.true_eq_false, Bool.false_eq_true, implies_true, not_true_eq_false, not_false_eq_true, decide_true, decide_false, Bool.not_true, Bool.not_false]
    refine ⟨fun _ => hbad, fun _ => ⟨fun _ => ?_, fun h => absurd h (by simp only [List.length_cons, List.length_nil]; omega)⟩⟩
    have hw := wrap_succ j (by omega)
    rw [hw]
    refine ⟨⟨j + 1, rfl, by omega, by simp; omega, fun p x hp hx => ?_⟩, by omega⟩
    by_cases e : p < j
    · exact hin p x e hx
    · have : p = j := by omega
      subst this
      rw [hy] at hx; cases hx
      omega
  · refine hQ _ _ (fun _ => ⟨by omega, fun x hx => ?_⟩) (fun h => ⟨rfl, ?_⟩)
    · obtain ⟨p, hp⟩ := List.getElem?_of_mem hx
      exact hin p x (by have := (List.getElem?_eq_some_iff.1 hp).1; omega) hp
    · rw [h] at hj
      exact List.eq_nil_of_length_eq_zero (by simp only [List.length_nil] at hj; omega)
/-- what Sorts says of the nodes that are always there -/
def SortsQ (l : List NodeT) (m : Nat) (out : List Int) : Prop := out.length = m ∧ (∀ (i : Nat) (c : Int), (c = 0 ∨ c = 1) → i < m → l[i]? = some (2, c, []) → out[i]? = some 1) ∧ (∀ i : Nat, i < m → l[i]? = some (26, 0, []) → out[i]? = some 2)
theorem SortsQ.push {l : List NodeT} {m : Nat} {out : List Int} (h : SortsQ l m out) {r : Int} (h1 : ∀ c : Int, (c = 0 ∨ c = 1) → l[m]? = some (2, c, []) → r = 1) (h2 : l[m]? = some (26, 0, []) → r = 2) : SortsQ l (m + 1) (out ++ [r]) := by
  obtain ⟨a, b, c⟩ := h
  refine ⟨by simp [a], fun i v hv hi hl => ?_, fun i hi hl => ?_⟩
  · by_cases e : i < m
    · rw [List.getElem?_append_left (by omega)]; exact b i v hv e hl
    · have : i = m := by omega
      subst this
      rw [List.getElem?_append_right (by omega), a, h1 v hv hl]; simp
  · by_cases e : i < m
    · rw [List.getElem?_append_left (by omega)]; exact c i e hl
    · have : i = m := by omega
      subst this
      rw [List.getElem?_append_right (by omega), a, h2 hl]; simp
theorem F59_ok (l : List NodeT) (hl : l.length ≤ 100000) (hk : ∀ x ∈ l, x.2.2.length ≤ 100000) : Ret (F59 l) (SortsQ l l.length) := by
  unfold F59
  refine ret_loop (fun q : Int × List Int => ∃ m : Nat, q.1 = m ∧ m ≤ l.length ∧ SortsQ l m q.2) (fun q => l.length - q.1.toNat) ?_ _ ⟨0, rfl, by omega, rfl, fun i v hv hi => by omega, fun i hi => by omega⟩
  rintro ⟨i', out⟩ ⟨m, e, hm, hs⟩
  dsimp only at e hs
  subst e
  simp only [L59_1, ret_some, ret_none, ret_bind, ret_map, ret_bif, Sum.elim_inl, Sum.elim_inr, decide_eq_true_eq, decide_eq_false_iff_not, stepQ_inl, stepQ_inr, Bool.not_eq_true', Bool.not_eq_false', beq_iff_eq, bne_iff_ne, ne_eq, beq_eq_false_iff_ne, bne_eq_false_iff_eq, ge_iff_le, gt_iff_lt, Int.not_le, Int.not_lt, reduceCtorEq, false_implies, true_implies, forall_const, and_true, true_and, Bool.true_eq_false, Bool.false_eq_true, implies_true, not_true_eq_false, not_false_eq_true, decide_true, decide_false, Bool.not_true, Bool.not_false]
  refine ⟨fun hlt => ?_, fun hge => ?_⟩
  · have hml : m < l.length := by omega
    have hn : l[m]? = some l[m] := List.getElem?_eq_getElem hml
    have hg : gI l (m : Int) = some l[m] := by rw [gI_nat, hn]
    have ho := hs.1
    have hw := wrap_succ m (by omega)
    refine loop59 l hk m l[m] hn out ho fun ok k h1 h2 => ?_
    simp only [ret_some, ret_none, ret_bind, ret_map, ret_bif, Sum.elim_inl, Sum.elim_inr, decide_eq_true_eq, decide_eq_false_iff_not, stepQ_inl, stepQ_inr, Bool.not_eq_true', Bool.not_eq_false', beq_iff_eq, bne_iff_ne, ne_eq, beq_eq_false_iff_ne, bne_eq_false_iff_eq, ge_iff_le, gt_iff_lt, Int.not_le, Int.not_lt, reduceCtorEq, false_implies, true_implies, forall_const, and_true, true_and, Bool.true_eq_false, Bool.false_eq_true, implies_true, not_true_eq_false, not_false_eq_true, decide_true, decide_false, Bool.not_true, Bool.not_false, J59_2, ret_eq hg]
    cases ok
    · simp only [ret_some, ret_none, ret_bind, ret_map, ret_bif, Sum.elim_inl, Sum.elim_inr, decide_eq_true_eq, decide_eq_false_iff_not, stepQ_inl, stepQ_inr, Bool.not_eq_true', Bool.not_eq_false', beq_iff_eq, bne_iff_ne, ne_eq, beq_eq_false_iff_ne, bne_eq_false_iff_eq, ge_iff_le, gt_iff_lt, Int.not_le, Int.not_lt, reduceCtorEq, false_implies, true_implies, forall_const, and_true, true_and, Bool.true_eq_false, Bool.false_eq_true, implies_true, not_true_eq_false, not_false_eq_true, decide_true, decide_false, Bool.not_true, Bool.not_false]
      refine ⟨fun _ => ?_, fun h => absurd h (by simp only [List.length_cons, List.length_nil]; omega)⟩
      simp only [ret_some, ret_none, ret_bind, ret_map, ret_bif, Sum.elim_inl, Sum.elim_inr, decide_eq_true_eq, decide_eq_false_iff_not, stepQ_inl, stepQ_inr, Bool.not_eq_true', Bool.not_eq_false', beq_iff_eq, bne_iff_ne, ne_eq, beq_eq_false_iff_ne, bne_eq_false_iff_eq, ge_iff_le, gt_iff_lt, Int.not_le, Int.not_lt, reduceCtorEq, false_implies, true_implies, forall_const, and_true, true_and, Bool.true_eq_false, Bool.false_eq_true, implies_true, not_true_eq_false, not_false_eq_true, decide_true, decide_false, Bool.not_true, Bool.not_false, J59_1, hw]
      refine ⟨⟨m + 1, rfl, by omega, hs.push (fun c hc h => ?_) (fun h => ?_)⟩, by omega⟩
      all_goals
        rw [hn] at h
        have := (h2 (by rw [Option.some.inj h])).1
        cases this
    · obtain ⟨k1, k2⟩ := h1 rfl
      have hb := hk l[m] (List.getElem_mem hml)
      simp only [ret_some, ret_none, ret_bind, ret_map, ret_bif, Sum.elim_inl, Sum.elim_inr, decide_eq_true_eq, decide_eq_false_iff_not, stepQ_inl, stepQ_inr, Bool.not_eq_true', Bool.not_eq_false', beq_iff_eq, bne_iff_ne, ne_eq, beq_eq_false_iff_ne, bne_eq_false_iff_eq, ge_iff_le, gt_iff_lt, Int.not_le, Int.not_lt, reduceCtorEq, false_implies, true_implies, forall_const, and_true, true_and, Bool.true_eq_false, Bool.false_eq_true, implies_true, not_true_eq_false, not_false_eq_true, decide_true, decide_false, Bool.not_true, Bool.not_false]
      refine Ret.mono (F61_ok l l[m] k k1 (by omega) (fun x hx => by have := k2 x hx; omega) (fun x hx => by have := hk x hx; omega)) fun r hr _ => ?_
      refine ⟨fun _ => ?_, fun h => absurd h (by simp only [List.length_cons, List.length_nil]; omega)⟩
      simp only [ret_some, ret_none, ret_bind, ret_map, ret_bif, Sum.elim_inl, Sum.elim_inr, decide_eq_true_eq, decide_eq_false_iff_not, stepQ_inl, stepQ_inr, Bool.not_eq_true', Bool.not_eq_false', beq_iff_eq, bne_iff_ne, ne_eq, beq_eq_false_iff_ne, bne_eq_false_iff_eq, ge_iff_le, gt_iff_lt, Int.not_le, Int.not_lt, reduceCtorEq, false_implies, true_implies, forall_const, and_true, true_and, Bool.true_eq_false, Bool.false_eq_true, implies_true, not_true_eq_false, not_false_eq_true, decide_true, decide_false, Bool.not_true, Bool.not_false, J59_1, hw]
      refine ⟨⟨m + 1, rfl, by omega, hs.push (fun c hc h => ?_) (fun h => ?_)⟩, by omega⟩
      all_goals
        rw [hn] at h
        have h := Option.some.inj h
        have hk0 := (h2 (by rw [h])).2
        rw [h, hk0] at hr
      · rw [F61_par l c hc] at hr; exact (Option.some.inj hr).symm
      · rw [F61_ent] at hr; exact (Option.some.inj hr).symm
  · have : m = l.length := by omega
    subst this
    exact hs

/-- a node of a sort -/
theorem F51_ok (l : List NodeT) (hl : l.length ≤ 100000) (hk : ∀ x ∈ l, x.2.2.length ≤ 100000) (h0 : l[0]? = some (2, 0, [])) (h2 : l[2]? = some (26, 0, [])) (sort n : Int) (hs : sort = 1 ∨ sort = 2) : Ret (F51 l sort n) fun r => 0 ≤ r ∧ r < l.length := by
  have l2 : 2 < l.length := (List.getElem?_eq_some_iff.1 h2).1
  simp only [F51, ret_some, ret_none, ret_bind, ret_map, ret_bif, Sum.elim_inl, Sum.elim_inr, decide_eq_true_eq, decide_eq_false_iff_not, stepQ_inl, stepQ_inr, Bool.not_eq_true', Bool.not_eq_false', beq_iff_eq, bne_iff_ne, ne_eq, beq_eq_false_iff_ne, bne_eq_false_iff_eq, ge_iff_le, gt_iff_lt, Int.not_le, Int.not_lt, reduceCtorEq, false_implies, true_implies, forall_const, and_true, true_and, Bool.true_eq_false, Bool.false_eq_true, implies_true, not_true_eq_false, not_false_eq_true, decide_true, decide_false, Bool.not_true, Bool.not_false]
  refine Ret.mono (F59_ok l hl hk) fun so _ ⟨s1, s2, s3⟩ => ?_
  have g0 := s2 0 0 (.inl rfl) (by omega) h0
  have g2 := s3 2 l2 h2
  refine ret_loop (fun q : Int × List Int => ∃ m : Nat, q.1 = m ∧ m ≤ l.length ∧ q.2.length ≤ m ∧ (∀ x ∈ q.2, 0 ≤ x ∧ x < l.length) ∧ (∀ i : Nat, i < m → so[i]? = some sort → q.2 ≠ [])) (fun q => l.length - q.1.toNat) ?_ _ ⟨0, rfl, by omega, by simp, (fun x hx => by cases hx), fun i hi => by omega⟩
  rintro ⟨i', all⟩ ⟨m, e, hm, ha, hx, hne⟩
  dsimp only at e ha hx hne
  subst e
  simp only [L51_1, J51_1, ret_some, ret_none, ret_bind, ret_map, ret_bif, Sum.elim_inl, Sum.elim_inr, decide_eq_true_eq, decide_eq_false_iff_not, stepQ_inl, stepQ_inr, Bool.not_eq_true', Bool.not_eq_false', beq_iff_eq, bne_iff_ne, ne_eq, beq_eq_false_iff_ne, bne_eq_false_iff_eq, ge_iff_le, gt_iff_lt, Int.not_le, Int.not_lt, reduceCtorEq, false_implies, true_implies, forall_const, and_true, true_and, Bool.true_eq_false, Bool.false_eq_true, implies_true, not_true_eq_false, not_false_eq_true, decide_true, decide_false, Bool.not_true, Bool.not_false]
  refine ⟨fun hlt => ret_gI (by omega) (by omega) fun y hy _ => ?_, fun hge => ?_⟩
  · have hw := wrap_succ m (by omega)
    rw [gI_nat] at hy
    rw [hw]
    refine ⟨fun h => ⟨fun _ => ?_, fun h => absurd h (by simp only [List.length_cons, List.length_nil]; omega)⟩, fun h => ?_⟩
    · refine ⟨⟨m + 1, rfl, by omega, by simp; omega, fun x h => ?_, fun i _ _ => by simp⟩, by omega⟩
      rcases List.mem_append.1 h with h | h
      · exact hx x h
      · rw [List.mem_singleton.1 h]; omega
    · refine ⟨⟨m + 1, rfl, by omega, by omega, hx, fun i hi hso => ?_⟩, by omega⟩
      by_cases e : i < m
      · exact hne i e hso
      · have : i = m := by omega
        subst this
        rw [hy] at hso; exact absurd (Option.some.inj hso) h
  · have hnn : all ≠ [] := by
      rcases hs with rfl | rfl
      · exact hne 0 (by omega) g0
      · exact hne 2 (by omega) g2
    have hpos : 0 < all.length := List.length_pos_iff.2 hnn
    refine F15_ok (by omega) (by omega) fun r r0 r1 => ?_
    rw [wrap_id (n := (all.length : Int) - 1) (by omega) (by omega), wrap_id (by omega) (by omega)]
    refine ret_gI (by omega) (by omega) fun y hy hm => ?_
    simp only [ret_eq hy]
    exact hx y hm
end Go.Dat
