/-
  ExplainShortest as a plain function.
-/
import Derived.Test.YtffkjnaocflmdaaP6
namespace Go.Dat
open Go.Eng
set_option linter.unusedSimpArgs false
set_option linter.unusedVariables false

theorem loop5_1 (s : SatT) (hs : RawQ s) (i : Int) (h : ∃ k : Nat, i = k ∧ k ≤ s.2.1.length) : Ret (L5_1 s i) (StepQ (fun i : Int => ∃ k : Nat, i = k ∧ k ≤ s.2.1.length) (fun i => s.2.1.length - i.toNat) (fun b => b = true) i) := by
  obtain ⟨k, rfl, hk⟩ := h
  have n1 := hs.n1
  have sl := hs.sl
  have h3 : F3 = some true := rfl
  simp only [L5_1, ret_some, ret_none, ret_bind, ret_map, ret_bif, Sum.elim_inl, Sum.elim_inr, decide_eq_true_eq, decide_eq_false_iff_not, stepQ_inl, stepQ_inr, Bool.not_eq_true', Bool.not_eq_false', beq_iff_eq, bne_iff_ne, ne_eq, beq_eq_false_iff_ne, bne_eq_false_iff_eq, ge_iff_le, gt_iff_lt, Int.not_le, Int.not_lt, reduceCtorEq, false_implies, true_implies, forall_const, and_true, true_and, Bool.true_eq_false, Bool.false_eq_true, implies_true, not_true_eq_false, not_false_eq_true, decide_true, decide_false, Bool.not_true, Bool.not_false]
  refine ⟨fun hlt => ret_gI (by omega) hlt fun y hy _ => ?_, fun _ => by rw [h3, ret_some]⟩
  have hw := wrap_succ k (by omega)
  rw [hw]
  refine Ret.mono (F8_ok s y.1 y.2.1 _ (by omega) (by omega)) fun r _ hr => ?_
  rw [gI_nat] at hy
  have go : Ret (J5_2 (k : Int) false) (StepQ (fun i : Int => ∃ k : Nat, i = k ∧ k ≤ s.2.1.length) (fun i => s.2.1.length - i.toNat) (fun b => b = true) (k : Int)) := by
    simp only [J5_2, ret_some, ret_none, ret_bind, ret_map, ret_bif, Sum.elim_inl, Sum.elim_inr, decide_eq_true_eq, decide_eq_false_iff_not, stepQ_inl, stepQ_inr, Bool.not_eq_true', Bool.not_eq_false', beq_iff_eq, bne_iff_ne, ne_eq, beq_eq_false_iff_ne, bne_eq_false_iff_eq, ge_iff_le, gt_iff_lt, Int.not_le, Int.not_lt, reduceCtorEq, false_implies, true_implies, forall_const, and_true, true_and, Bool.true_eq_false, Bool.false_eq_true, implies_true, not_true_eq_false, not_false_eq_true, decide_true, decide_false, Bool.not_true, Bool.not_false, hw]
    exact ⟨⟨k + 1, rfl, by omega⟩, by omega⟩
  refine ⟨fun h0 => ⟨fun h1 => ⟨fun h2 => ⟨fun h3 => ?_, fun _ => go⟩, fun _ => go⟩, fun _ => go⟩, fun _ => go⟩
  have hl : inR s.1.length y.1 := ⟨h0, h1⟩
  have hr' : inR s.1.length y.2.1 := ⟨h2, h3⟩
  have hkl : k < s.2.1.length := by omega
  have hyk : s.2.1[k] = y := by rw [List.getElem?_eq_getElem hkl] at hy; exact Option.some.inj hy
  have := short_step hkl (v := r.1) (ok := r.2) (by rw [hyk]; exact hl) (by rw [hyk]; exact hr') (by rw [hyk]; exact PathSays.short hr hl hr')
  refine ⟨fun hf => (by rw [this.1] at hf; cases hf), fun _ => ?_⟩
  rw [show decide (1 < (r.1.length : Int)) = false by simp; omega]
  exact go
theorem F5_ok (l steps : List Int) (how at' a b c : Int) : F5 l steps how at' a b c = some true := by
  refine Ret.eq ?_
  simp only [F5, ret_some, ret_none, ret_bind, ret_map, ret_bif, Sum.elim_inl, Sum.elim_inr, decide_eq_true_eq, decide_eq_false_iff_not, stepQ_inl, stepQ_inr, Bool.not_eq_true', Bool.not_eq_false', beq_iff_eq, bne_iff_ne, ne_eq, beq_eq_false_iff_ne, bne_eq_false_iff_eq, ge_iff_le, gt_iff_lt, Int.not_le, Int.not_lt, reduceCtorEq, false_implies, true_implies, forall_const, and_true, true_and, Bool.true_eq_false, Bool.false_eq_true, implies_true, not_true_eq_false, not_false_eq_true, decide_true, decide_false, Bool.not_true, Bool.not_false]
  refine Ret.mono (F13_ok l steps how at') fun s _ hs => ?_
  have n0 := hs.n0
  have n1 := hs.n1
  have sl := hs.sl
  refine F15_ok (by omega) (by omega) fun a a0 a1 => F15_ok (by omega) (by omega) fun b b0 b1 => F15_ok (by omega) (by omega) fun c c0 c1 => ?_
  refine Ret.mono (F8_ok s a b _ (by omega) (by omega)) fun x _ hx => Ret.mono (F8_ok s b c _ (by omega) (by omega)) fun y _ hy => Ret.mono (F8_ok s a c _ (by omega) (by omega)) fun z _ hz => Ret.mono (F8_ok s b a _ (by omega) (by omega)) fun w _ hw => ?_
  have hx := PathSays.short hx ⟨a0, a1⟩ ⟨b0, b1⟩
  have hy := PathSays.short hy ⟨b0, b1⟩ ⟨c0, c1⟩
  have hz := PathSays.short hz ⟨a0, a1⟩ ⟨c0, c1⟩
  have hw := PathSays.short hw ⟨b0, b1⟩ ⟨a0, a1⟩
  have sym := short_sym hx hw
  have hxl := hx.bd
  have hyl := hy.bd
  rw [wrap_id (by omega) (by omega)]
  have fin : Ret (J5_1 s false) fun b => b = true := by
    simp only [J5_1, ret_some, ret_none, ret_bind, ret_map, ret_bif, Sum.elim_inl, Sum.elim_inr, decide_eq_true_eq, decide_eq_false_iff_not, stepQ_inl, stepQ_inr, Bool.not_eq_true', Bool.not_eq_false', beq_iff_eq, bne_iff_ne, ne_eq, beq_eq_false_iff_ne, bne_eq_false_iff_eq, ge_iff_le, gt_iff_lt, Int.not_le, Int.not_lt, reduceCtorEq, false_implies, true_implies, forall_const, and_true, true_and, Bool.true_eq_false, Bool.false_eq_true, implies_true, not_true_eq_false, not_false_eq_true, decide_true, decide_false, Bool.not_true, Bool.not_false]
    exact ret_loop (fun i : Int => ∃ k : Nat, i = k ∧ k ≤ s.2.1.length) (fun i => s.2.1.length - i.toNat) (loop5_1 s hs) _ ⟨0, rfl, by omega⟩
  have e : decide ((x.1.length : Int) = (w.1.length : Int)) = true := by rw [sym.2]; simp
  have fin2 : (x.2 = w.2 → Ret (J5_1 s ((x.1.length : Int) != (w.1.length : Int))) fun b => b = true) := fun _ => by
    rw [show ((x.1.length : Int) != (w.1.length : Int)) = false by simp; omega]
    exact fin
  refine ⟨fun hp => ⟨fun hq => ⟨fun hr => ?_, fun hr => ⟨fun hlt => ?_, fun _ => ⟨fun hn => absurd sym.1 hn, fin2⟩⟩⟩, fun _ => ⟨fun hn => absurd sym.1 hn, fin2⟩⟩, fun _ => ⟨fun hn => absurd sym.1 hn, fin2⟩⟩
  · have := (short_tri hx hy hz hp hq).1
    rw [hr] at this; cases this
  · have := (short_tri hx hy hz hp hq).2
    omega
end Go.Dat
