/-
  Pick, inRange, edges, shortest, Path as plain functions.
-/
import Derived.Test.YtffkjnaocflmdaaFd
import Derived.Test.YtffkjnaocflmdaaBf
namespace Go.Dat
open Go.Eng
set_option linter.unusedSimpArgs false
set_option linter.unusedVariables false

/-! Pick -/
def pickM (n m : Int) : Int := if n.tmod m < 0 then n.tmod m + m else n.tmod m
theorem tmod_bd (n m : Int) (hm : 0 < m) : -m < n.tmod m ∧ n.tmod m < m := by
  constructor
  · have := Int.tmod_lt_of_pos (-n) hm; rw [Int.neg_tmod] at this; omega
  · exact Int.tmod_lt_of_pos n hm
theorem pickM_bd (n m : Int) (hm : 0 < m) : 0 ≤ pickM n m ∧ pickM n m < m := by
  have := tmod_bd n m hm
  unfold pickM; split <;> omega
theorem F15_eq (n m : Int) (hm : 0 < m) (h2 : m ≤ 9223372036854775807) : F15 n m = some (pickM n m) := by
  have hb := tmod_bd n m hm
  refine Ret.eq ?_
  simp only [F15, J15_1, ret_some, ret_none, ret_bind, ret_map, ret_bif, Sum.elim_inl, Sum.elim_inr, decide_eq_true_eq, decide_eq_false_iff_not, stepQ_inl, stepQ_inr, Bool.not_eq_true', Bool.not_eq_false', beq_iff_eq, bne_iff_ne, ne_eq, beq_eq_false_iff_ne, bne_eq_false_iff_eq, ge_iff_le, gt_iff_lt, Int.not_le, Int.not_lt, reduceCtorEq, false_implies, true_implies, forall_const, and_true, true_and, Bool.true_eq_false, Bool.false_eq_true, implies_true, not_true_eq_false, not_false_eq_true, decide_true, decide_false, Bool.not_true, Bool.not_false]
  refine ⟨by omega, fun _ => ⟨fun h => ?_, fun h => ?_⟩⟩
  · rw [wrap_id (by omega) (by omega), pickM, if_pos h]
  · rw [pickM, if_neg (by omega)]
theorem F15_ok {n m : Int} {Q : Int → Prop} (hm : 0 < m) (h2 : m ≤ 9223372036854775807) (h : ∀ r, 0 ≤ r → r < m → Q r) : Ret (F15 n m) Q := by
  rw [F15_eq n m hm h2, ret_some]
  exact h _ (pickM_bd n m hm).1 (pickM_bd n m hm).2

/-! inRange -/
theorem F26_eq (l : List NodeT) (i : Int) : F26 l i = some (decide (inR l.length i)) := by
  refine Ret.eq ?_
  simp only [F26, J26_1, ret_some, ret_none, ret_bind, ret_map, ret_bif, Sum.elim_inl, Sum.elim_inr, decide_eq_true_eq, decide_eq_false_iff_not, stepQ_inl, stepQ_inr, Bool.not_eq_true', Bool.not_eq_false', beq_iff_eq, bne_iff_ne, ne_eq, beq_eq_false_iff_ne, bne_eq_false_iff_eq, ge_iff_le, gt_iff_lt, Int.not_le, Int.not_lt, reduceCtorEq, false_implies, true_implies, forall_const, and_true, true_and, Bool.true_eq_false, Bool.false_eq_true, implies_true, not_true_eq_false, not_false_eq_true, decide_true, decide_false, Bool.not_true, Bool.not_false, inR]
  refine ⟨fun h => by simp [h], fun h => ?_⟩
  have : ¬ (0 ≤ i ∧ i < l.length) := by omega
  simp [this]

/-! edges -/
theorem gI_getD {adj : Adj} {i : Int} {row : List (Int × Int)} (h : gI adj i = some row) : adj[i.toNat]?.getD [] = row := by
  rw [(gI_some h).2.2]; rfl
theorem setI_addE {adj : Adj} {i : Int} {row : List (Int × Int)} (h : gI adj i = some row) (e : Int × Int) : setI adj i (row ++ [e]) = addE adj i e := by
  unfold addE setI; rw [gI_getD h]
theorem edgesM_at {n : Nat} {l : List StepT} {k : Nat} {x : StepT} (h : l[k]? = some x) : edgesM n l (k + 1) = stepE n (edgesM n l k) k x := by
  conv => lhs; unfold edgesM
  rw [h]
theorem F28_eq (s : SatT) (below : Int) (hs : s.2.1.length ≤ 400000) (hn : s.1.length ≤ 1000000) : F28 s below = some (grM s below) := by
  refine Ret.eq ?_
  simp only [F28, J28_1, ret_some, ret_none, ret_bind, ret_map, ret_bif, Sum.elim_inl, Sum.elim_inr, decide_eq_true_eq, decide_eq_false_iff_not, stepQ_inl, stepQ_inr, Bool.not_eq_true', Bool.not_eq_false', beq_iff_eq, bne_iff_ne, ne_eq, beq_eq_false_iff_ne, bne_eq_false_iff_eq, ge_iff_le, gt_iff_lt, Int.not_le, Int.not_lt, reduceCtorEq, false_implies, true_implies, forall_const, and_true, true_and, Bool.true_eq_false, Bool.false_eq_true, implies_true, not_true_eq_false, not_false_eq_true, decide_true, decide_false, Bool.not_true, Bool.not_false]
  refine ⟨fun _ => ?_, fun h => absurd h (by omega)⟩
  refine Ret.mono (ret_loop (I := fun q : Int × Adj => ∃ k : Nat, q.1 = k ∧ k ≤ s.2.1.length ∧ k ≤ below.toNat ∧ q.2 = edgesM s.1.length s.2.1 k) (m := fun q => s.2.1.length - q.1.toNat) (Q := fun r => r = .inl (grM s below)) ?_ _ ⟨0, rfl, by omega, by omega, rfl⟩) ?_
  · rintro ⟨x6, out⟩ ⟨k, hk, h1, h2, h3⟩
    dsimp only at hk h3
    subst hk h3
    simp only [L28_1, J28_2, ret_some, ret_none, ret_bind, ret_map, ret_bif, Sum.elim_inl, Sum.elim_inr, decide_eq_true_eq, decide_eq_false_iff_not, stepQ_inl, stepQ_inr, Bool.not_eq_true', Bool.not_eq_false', beq_iff_eq, bne_iff_ne, ne_eq, beq_eq_false_iff_ne, bne_eq_false_iff_eq, ge_iff_le, gt_iff_lt, Int.not_le, Int.not_lt, reduceCtorEq, false_implies, true_implies, forall_const, and_true, true_and, Bool.true_eq_false, Bool.false_eq_true, implies_true, not_true_eq_false, not_false_eq_true, decide_true, decide_false, Bool.not_true, Bool.not_false]
    refine ⟨fun hlt => ?_, fun hge => ?_⟩
    · refine ret_gI (by omega) hlt fun y hy hm => ?_
      rw [gI_nat] at hy
      refine ⟨fun hb => ?_, fun hb => ?_⟩
      · rw [grM]
        have : min s.2.1.length below.toNat = k := by omega
        rw [this]
      · have hw : IntKind.wrap .i64 ((k : Int) + 1) = ((k + 1 : Nat) : Int) := by rw [wrap_id (by omega) (by omega)]; omega
        have at' := edgesM_at (n := s.1.length) hy
        rw [F26_eq]
        simp only [ret_some, ret_none, ret_bind, ret_map, ret_bif, Sum.elim_inl, Sum.elim_inr, decide_eq_true_eq, decide_eq_false_iff_not, stepQ_inl, stepQ_inr, Bool.not_eq_true', Bool.not_eq_false', beq_iff_eq, bne_iff_ne, ne_eq, beq_eq_false_iff_ne, bne_eq_false_iff_eq, ge_iff_le, gt_iff_lt, Int.not_le, Int.not_lt, reduceCtorEq, false_implies, true_implies, forall_const, and_true, true_and, Bool.true_eq_false, Bool.false_eq_true, implies_true, not_true_eq_false, not_false_eq_true, decide_true, decide_false, Bool.not_true, Bool.not_false]
        by_cases hl : inR s.1.length y.1
        · by_cases hr : inR s.1.length y.2.1
          · rw [F26_eq]
            simp only [ret_some, ret_none, ret_bind, ret_map, ret_bif, Sum.elim_inl, Sum.elim_inr, decide_eq_true_eq, decide_eq_false_iff_not, stepQ_inl, stepQ_inr, Bool.not_eq_true', Bool.not_eq_false', beq_iff_eq, bne_iff_ne, ne_eq, beq_eq_false_iff_ne, bne_eq_false_iff_eq, ge_iff_le, gt_iff_lt, Int.not_le, Int.not_lt, reduceCtorEq, false_implies, true_implies, forall_const, and_true, true_and, Bool.true_eq_false, Bool.false_eq_true, implies_true, not_true_eq_false, not_false_eq_true, decide_true, decide_false, Bool.not_true, Bool.not_false, hl, hr, decide_true, Bool.not_true, J28_3, J28_2]
            have hle := edgesM_le s.1.length s.2.1 k
            have hlen := edgesM_len s.1.length s.2.1 k
            refine ret_gI hl.1 (by rw [hlen]; exact hl.2) fun row1 hr1 hm1 => ?_
            have hl1 := hle _ hm1
            have e1 := setI_addE hr1 (y.2.1, (k : Int))
            simp only [ret_eq hr1, ret_some, ret_none, ret_bind, ret_map, ret_bif, Sum.elim_inl, Sum.elim_inr, decide_eq_true_eq, decide_eq_false_iff_not, stepQ_inl, stepQ_inr, Bool.not_eq_true', Bool.not_eq_false', beq_iff_eq, bne_iff_ne, ne_eq, beq_eq_false_iff_ne, bne_eq_false_iff_eq, ge_iff_le, gt_iff_lt, Int.not_le, Int.not_lt, reduceCtorEq, false_implies, true_implies, forall_const, and_true, true_and, Bool.true_eq_false, Bool.false_eq_true, implies_true, not_true_eq_false, not_false_eq_true, decide_true, decide_false, Bool.not_true, Bool.not_false]
            have len1 : (addE (edgesM s.1.length s.2.1 k) y.1 (y.2.1, (k : Int))).length = s.1.length := by rw [addE_len, hlen]
            have le1 := addE_le hle y.1 (y.2.1, (k : Int))
            refine ⟨fun _ => ?_, fun h => absurd h (by simp only [List.length_cons, List.length_nil]; omega)⟩
            rw [e1]
            refine ret_gI hr.1 (by rw [len1]; exact hr.2) fun row2 hr2 hm2 => ?_
            have hl2 := le1 _ hm2
            have e2 := setI_addE hr2 (y.1, (k : Int))
            simp only [ret_eq hr2, ret_some, ret_none, ret_bind, ret_map, ret_bif, Sum.elim_inl, Sum.elim_inr, decide_eq_true_eq, decide_eq_false_iff_not, stepQ_inl, stepQ_inr, Bool.not_eq_true', Bool.not_eq_false', beq_iff_eq, bne_iff_ne, ne_eq, beq_eq_false_iff_ne, bne_eq_false_iff_eq, ge_iff_le, gt_iff_lt, Int.not_le, Int.not_lt, reduceCtorEq, false_implies, true_implies, forall_const, and_true, true_and, Bool.true_eq_false, Bool.false_eq_true, implies_true, not_true_eq_false, not_false_eq_true, decide_true, decide_false, Bool.not_true, Bool.not_false, J28_2]
            refine ⟨fun _ => ?_, fun h => absurd h (by simp only [List.length_cons, List.length_nil]; omega)⟩
            rw [e2]
            refine ⟨⟨k + 1, hw, by omega, by omega, ?_⟩, by rw [hw]; omega⟩
            rw [at', stepE, if_pos ⟨hl, hr⟩]
          · rw [F26_eq]
            simp only [ret_some, ret_none, ret_bind, ret_map, ret_bif, Sum.elim_inl, Sum.elim_inr, decide_eq_true_eq, decide_eq_false_iff_not, stepQ_inl, stepQ_inr, Bool.not_eq_true', Bool.not_eq_false', beq_iff_eq, bne_iff_ne, ne_eq, beq_eq_false_iff_ne, bne_eq_false_iff_eq, ge_iff_le, gt_iff_lt, Int.not_le, Int.not_lt, reduceCtorEq, false_implies, true_implies, forall_const, and_true, true_and, Bool.true_eq_false, Bool.false_eq_true, implies_true, not_true_eq_false, not_false_eq_true, decide_true, decide_false, Bool.not_true, Bool.not_false, hl, hr, decide_true, decide_false, Bool.not_true, Bool.not_false, J28_3, J28_2]
            refine ⟨⟨k + 1, hw, by omega, by omega, ?_⟩, by rw [hw]; omega⟩
            rw [at', stepE, if_neg (fun h => hr h.2)]
        · simp only [ret_some, ret_none, ret_bind, ret_map, ret_bif, Sum.elim_inl, Sum.elim_inr, decide_eq_true_eq, decide_eq_false_iff_not, stepQ_inl, stepQ_inr, Bool.not_eq_true', Bool.not_eq_false', beq_iff_eq, bne_iff_ne, ne_eq, beq_eq_false_iff_ne, bne_eq_false_iff_eq, ge_iff_le, gt_iff_lt, Int.not_le, Int.not_lt, reduceCtorEq, false_implies, true_implies, forall_const, and_true, true_and, Bool.true_eq_false, Bool.false_eq_true, implies_true, not_true_eq_false, not_false_eq_true, decide_true, decide_false, Bool.not_true, Bool.not_false, hl, decide_false, Bool.not_false, J28_3, J28_2]
          refine ⟨⟨k + 1, hw, by omega, by omega, ?_⟩, by rw [hw]; omega⟩
          rw [at', stepE, if_neg (fun h => hl h.1)]
    · rw [grM]
      have : min s.2.1.length below.toNat = k := by omega
      rw [this]
  · rintro r _ rfl
    simp only [J28_1, ret_some, ret_none, ret_bind, ret_map, ret_bif, Sum.elim_inl, Sum.elim_inr, decide_eq_true_eq, decide_eq_false_iff_not, stepQ_inl, stepQ_inr, Bool.not_eq_true', Bool.not_eq_false', beq_iff_eq, bne_iff_ne, ne_eq, beq_eq_false_iff_ne, bne_eq_false_iff_eq, ge_iff_le, gt_iff_lt, Int.not_le, Int.not_lt, reduceCtorEq, false_implies, true_implies, forall_const, and_true, true_and, Bool.true_eq_false, Bool.false_eq_true, implies_true, not_true_eq_false, not_false_eq_true, decide_true, decide_false, Bool.not_true, Bool.not_false]
end Go.Dat
