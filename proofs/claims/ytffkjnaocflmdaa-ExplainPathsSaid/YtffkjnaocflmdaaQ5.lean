/-
  Dependencies as the reference computes them; ExplainPaths as a plain function.
-/
import Derived.Test.YtffkjnaocflmdaaQ4
namespace Go.Dat
open Go.Eng
set_option linter.unusedSimpArgs false
set_option linter.unusedVariables false

/-- what the reference's set holds -/
structure Rf (s : SatT) (l : List Int) (t : Int) (b : List Bool) : Prop where
  len : b.length = s.2.1.length
  sound : ∀ u, gI b u = some true → EdgeOk s u → Dep s l u
  base : ∀ u, u ∈ l → EdgeOk s u → gI b u = some true
  closed : ∀ u, t < u → gI b u = some true → EdgeOk s u → ∀ v, Succ s u v → gI b v = some true
theorem gI_set_t {b : List Bool} {i u : Int} (h0 : 0 ≤ i) (h1 : i < b.length) (h : gI b u = some true) : gI (setI b i true) u = some true := by
  by_cases e : i = u
  · subst e; exact gI_set true h0 h1
  · rw [gI_set_ne _ h0 e]; exact h
theorem gI_set_inv {b : List Bool} {i u : Int} (h0 : 0 ≤ i) (h : gI (setI b i true) u = some true) : i = u ∨ gI b u = some true := by
  by_cases e : i = u
  · exact .inl e
  · rw [gI_set_ne _ h0 e] at h; exact .inr h
section
variable {s : SatT} (hs : s.2.1.length ≤ 400000) (hn : s.1.length ≤ 100000) (l : List Int)
include hs hn
/-- one operand pair of step t: between -/
structure Rk (s : SatT) (l : List Int) (t : Int) (y z : NodeT) (k : Nat) (b : List Bool) : Prop where
  rf : Rf s l t b
  me : gI b t = some true
  part : ∀ j p q, j < k → y.2.2[j]? = some p → z.2.2[j]? = some q → ∀ v ∈ (pth s p q t).1, gI b v = some true
theorem Rk.set {t : Int} {y z : NodeT} {k : Nat} {b : List Bool} (h : Rk s l t y z k b) {v : Int} (hv : Succ s t v) (hd : Dep s l t) : Rk s l t y z k (setI b v true) := by
  obtain ⟨he, hlt⟩ := hv.edge hs hn
  have v0 := he.lt
  have vl : v < b.length := by rw [h.rf.len]; exact v0.2
  refine ⟨⟨by rw [setI_len]; exact h.rf.len, fun u hu heu => ?_, fun u hu heu => gI_set_t v0.1 vl (h.rf.base u hu heu), fun u hu hb heu w hw => ?_⟩, gI_set_t v0.1 vl h.me, fun j p q hj hp hq w hw => gI_set_t v0.1 vl (h.part j p q hj hp hq w hw)⟩
  · rcases gI_set_inv v0.1 hu with rfl | h'
    · exact .step hd hv
    · exact h.rf.sound u h' heu
  · rcases gI_set_inv v0.1 hb with rfl | h'
    · omega
    · exact gI_set_t v0.1 vl (h.rf.closed u hu h' heu w hw)
theorem loop16_4 {t : Int} {y z : NodeT} {x : StepT} (hx : gI s.2.1 t = some x) (hw0 : x.2.2.1 = 0) (hy : gI s.1 x.1 = some y) (hz : gI s.1 x.2.1 = some z) (hd : Dep s l t) {k : Nat} {p q : Int} (hk : k ≤ 100000) (hp : y.2.2[k]? = some p) (hq : z.2.2[k]? = some q) {b : List Bool} (h : Rk s l t y z k b)
    {Q : (Int × List Bool) ⊕ ((List Bool) ⊕ ((Int × List Bool) ⊕ (List Int))) → Prop} (hQ : ∀ b', Rk s l t y z (k + 1) b' → Q (.inl (((k + 1 : Nat) : Int), b'))) :
    Ret (loopL (L16_4 (k : Int) (pth s p q t)) (0, b)) Q := by
  have hlen := says_len (pth_says s p q t hs hn)
  refine ret_loop (fun r : Int × List Bool => ∃ i : Nat, r.1 = i ∧ i ≤ (pth s p q t).1.length ∧ Rk s l t y z k r.2 ∧ ∀ j v, j < i → (pth s p q t).1[j]? = some v → gI r.2 v = some true) (fun r => (pth s p q t).1.length - r.1.toNat) ?_ _ ⟨0, rfl, by omega, h, fun j v hj => by omega⟩
  rintro ⟨i', b'⟩ ⟨i, e, hi, R, hall⟩
  dsimp only at e R hall
  subst e
  have hw := wrap_succ i (by omega)
  have hwk := wrap_succ k (by omega)
  simp only [L16_4, ret_some, ret_none, ret_bind, ret_map, ret_bif, Sum.elim_inl, Sum.elim_inr, decide_eq_true_eq, decide_eq_false_iff_not, stepQ_inl, stepQ_inr, Bool.not_eq_true', Bool.not_eq_false', beq_iff_eq, bne_iff_ne, ne_eq, beq_eq_false_iff_ne, bne_eq_false_iff_eq, ge_iff_le, gt_iff_lt, Int.not_le, Int.not_lt, reduceCtorEq, false_implies, true_implies, forall_const, and_true, true_and, Bool.true_eq_false, Bool.false_eq_true, implies_true, not_true_eq_false, not_false_eq_true, decide_true, decide_false, Bool.not_true, Bool.not_false]
  refine ⟨fun hlt => ret_gI (by omega) hlt fun v hv hm => ?_, fun hge => ?_⟩
  · obtain ⟨he, hvt⟩ := pth_mem hs hn hm
    have v0 := he.lt
    have vl : v < b'.length := by rw [R.rf.len]; exact v0.2
    have hsucc : Succ s t v := ⟨x, y, z, k, p, q, hx, hw0, hy, hz, hp, hq, hm⟩
    refine ret_gI v0.1 vl fun c hc _ => ?_
    simp only [ret_eq hc, hw]
    rw [gI_nat] at hv
    refine ⟨⟨i + 1, rfl, by omega, R.set hs hn l hsucc hd, fun j w hj hjw => ?_⟩, by omega⟩
    by_cases e : j < i
    · exact gI_set_t v0.1 vl (hall j w e hjw)
    · have : j = i := by omega
      subst this
      rw [hv] at hjw; cases hjw
      exact gI_set true v0.1 vl
  · rw [hwk]
    refine hQ b' ⟨R.rf, R.me, fun j p' q' hj hp' hq' v hv => ?_⟩
    by_cases e : j < k
    · exact R.part j p' q' e hp' hq' v hv
    · have : j = k := by omega
      subst this
      rw [hp] at hp'; cases hp'
      rw [hq] at hq'; cases hq'
      obtain ⟨j, hj⟩ := List.getElem?_of_mem hv
      exact hall j v (by have := (List.getElem?_eq_some_iff.1 hj).1; omega) hj
theorem loop16_3 {t : Int} {y z : NodeT} {x : StepT} (hx : gI s.2.1 t = some x) (hw0 : x.2.2.1 = 0) (hy : gI s.1 x.1 = some y) (hz : gI s.1 x.2.1 = some z) (hd : Dep s l t) (hky : y.2.2.length ≤ 100000) {b : List Bool} (h : Rk s l t y z 0 b)
    {Q : (List Bool) ⊕ ((Int × List Bool) ⊕ (List Int)) → Prop} (hQ : ∀ b', Rf s l (t - 1) b' → Q (.inl b')) :
    Ret (loopL (L16_3 s t y z) (0, b)) Q := by
  refine ret_loop (fun r : Int × List Bool => ∃ k : Nat, r.1 = k ∧ k ≤ y.2.2.length ∧ Rk s l t y z k r.2) (fun r => y.2.2.length - r.1.toNat) ?_ _ ⟨0, rfl, by omega, h⟩
  rintro ⟨k', b'⟩ ⟨k, e, hk, R⟩
  dsimp only at e R
  subst e
  have stop : (∀ p q, y.2.2[k]? = some p → z.2.2[k]? = some q → False) → Q (.inl b') := fun hend => by
    refine hQ b' ⟨R.rf.len, R.rf.sound, R.rf.base, fun u hu hb heu v hv => ?_⟩
    by_cases e : t < u
    · exact R.rf.closed u e hb heu v hv
    · have : u = t := by omega
      subst this
      obtain ⟨x', y', z', j, p, q, hx', _, hy', hz', hp, hq', ht'⟩ := hv
      rw [hx] at hx'; cases hx'
      rw [hy] at hy'; cases hy'
      rw [hz] at hz'; cases hz'
      by_cases hjk : j < k
      · exact R.part j p q hjk hp hq' v ht'
      · exfalso
        have h1 := (List.getElem?_eq_some_iff.1 hp).1
        have h2 := (List.getElem?_eq_some_iff.1 hq').1
        exact hend _ _ (List.getElem?_eq_getElem (show k < y.2.2.length by omega)) (List.getElem?_eq_getElem (show k < z.2.2.length by omega))
  simp only [L16_3, ret_some, ret_none, ret_bind, ret_map, ret_bif, Sum.elim_inl, Sum.elim_inr, decide_eq_true_eq, decide_eq_false_iff_not, stepQ_inl, stepQ_inr, Bool.not_eq_true', Bool.not_eq_false', beq_iff_eq, bne_iff_ne, ne_eq, beq_eq_false_iff_ne, bne_eq_false_iff_eq, ge_iff_le, gt_iff_lt, Int.not_le, Int.not_lt, reduceCtorEq, false_implies, true_implies, forall_const, and_true, true_and, Bool.true_eq_false, Bool.false_eq_true, implies_true, not_true_eq_false, not_false_eq_true, decide_true, decide_false, Bool.not_true, Bool.not_false]
  refine ⟨fun hlt => ?_, fun hge => ?_⟩
  · by_cases hz2 : k < z.2.2.length
    · rw [show decide ((k : Int) < (z.2.2.length : Int)) = true by simp; omega]
      obtain ⟨p, hp⟩ : ∃ p, y.2.2[k]? = some p := ⟨_, List.getElem?_eq_getElem (show k < y.2.2.length by omega)⟩
      obtain ⟨q, hq⟩ : ∃ q, z.2.2[k]? = some q := ⟨_, List.getElem?_eq_getElem hz2⟩
      have gp : gI y.2.2 (k : Int) = some p := by rw [gI_nat, hp]
      have gq : gI z.2.2 (k : Int) = some q := by rw [gI_nat, hq]
      simp only [J16_5, ret_some, ret_none, ret_bind, ret_map, ret_bif, Sum.elim_inl, Sum.elim_inr, decide_eq_true_eq, decide_eq_false_iff_not, stepQ_inl, stepQ_inr, Bool.not_eq_true', Bool.not_eq_false', beq_iff_eq, bne_iff_ne, ne_eq, beq_eq_false_iff_ne, bne_eq_false_iff_eq, ge_iff_le, gt_iff_lt, Int.not_le, Int.not_lt, reduceCtorEq, false_implies, true_implies, forall_const, and_true, true_and, Bool.true_eq_false, Bool.false_eq_true, implies_true, not_true_eq_false, not_false_eq_true, decide_true, decide_false, Bool.not_true, Bool.not_false, ret_eq gp, ret_eq gq, F14_eq s p q t hs hn]
      refine loop16_4 hs hn l hx hw0 hy hz hd (by omega) hp hq R fun b'' R' => ⟨⟨k + 1, rfl, by omega, R'⟩, by show y.2.2.length - (((k + 1 : Nat) : Int)).toNat < y.2.2.length - ((k : Int)).toNat; omega⟩
    · rw [show decide ((k : Int) < (z.2.2.length : Int)) = false by simp; omega]
      simp only [J16_5, ret_some, ret_none, ret_bind, ret_map, ret_bif, Sum.elim_inl, Sum.elim_inr, decide_eq_true_eq, decide_eq_false_iff_not, stepQ_inl, stepQ_inr, Bool.not_eq_true', Bool.not_eq_false', beq_iff_eq, bne_iff_ne, ne_eq, beq_eq_false_iff_ne, bne_eq_false_iff_eq, ge_iff_le, gt_iff_lt, Int.not_le, Int.not_lt, reduceCtorEq, false_implies, true_implies, forall_const, and_true, true_and, Bool.true_eq_false, Bool.false_eq_true, implies_true, not_true_eq_false, not_false_eq_true, decide_true, decide_false, Bool.not_true, Bool.not_false]
      exact stop fun p q _ hq => by have := (List.getElem?_eq_some_iff.1 hq).1; omega
  · simp only [J16_5, ret_some, ret_none, ret_bind, ret_map, ret_bif, Sum.elim_inl, Sum.elim_inr, decide_eq_true_eq, decide_eq_false_iff_not, stepQ_inl, stepQ_inr, Bool.not_eq_true', Bool.not_eq_false', beq_iff_eq, bne_iff_ne, ne_eq, beq_eq_false_iff_ne, bne_eq_false_iff_eq, ge_iff_le, gt_iff_lt, Int.not_le, Int.not_lt, reduceCtorEq, false_implies, true_implies, forall_const, and_true, true_and, Bool.true_eq_false, Bool.false_eq_true, implies_true, not_true_eq_false, not_false_eq_true, decide_true, decide_false, Bool.not_true, Bool.not_false]
    exact stop fun p q hp _ => by have := (List.getElem?_eq_some_iff.1 hp).1; omega
theorem F16_ok (hl : l.length ≤ 9223372036854775807) (hk : ∀ x ∈ s.1, x.2.2.length ≤ 100000) : Ret (F16 s l) (DepQ s l) := by
  simp only [F16, ret_some, ret_none, ret_bind, ret_map, ret_bif, Sum.elim_inl, Sum.elim_inr, decide_eq_true_eq, decide_eq_false_iff_not, stepQ_inl, stepQ_inr, Bool.not_eq_true', Bool.not_eq_false', beq_iff_eq, bne_iff_ne, ne_eq, beq_eq_false_iff_ne, bne_eq_false_iff_eq, ge_iff_le, gt_iff_lt, Int.not_le, Int.not_lt, reduceCtorEq, false_implies, true_implies, forall_const, and_true, true_and, Bool.true_eq_false, Bool.false_eq_true, implies_true, not_true_eq_false, not_false_eq_true, decide_true, decide_false, Bool.not_true, Bool.not_false]
  refine ⟨fun _ => ?_, fun h => absurd h (by omega)⟩
  have hrep : (List.replicate (Int.toNat (s.2.1.length : Int)) false).length = s.2.1.length := by simp
  have rep_f : ∀ u : Int, gI (List.replicate (Int.toNat (s.2.1.length : Int)) false) u ≠ some true := fun u h => by
    have := (gI_some h).2.2
    rw [List.getElem?_replicate] at this
    split at this <;> cases this
  refine ret_loop (fun q : Int × List Bool => ∃ i : Nat, q.1 = i ∧ i ≤ l.length ∧ q.2.length = s.2.1.length ∧ (∀ u, gI q.2 u = some true → u ∈ l) ∧ ∀ j u, j < i → l[j]? = some u → EdgeOk s u → gI q.2 u = some true) (fun q => l.length - q.1.toNat) ?_ _ ⟨0, rfl, by omega, hrep, fun u h => absurd h (rep_f u), fun j u hj => by omega⟩
  rintro ⟨i', b⟩ ⟨i, e, hi, hlen, hsub, hhas⟩
  dsimp only at e hlen hsub hhas
  subst e
  simp only [L16_1, ret_some, ret_none, ret_bind, ret_map, ret_bif, Sum.elim_inl, Sum.elim_inr, decide_eq_true_eq, decide_eq_false_iff_not, stepQ_inl, stepQ_inr, Bool.not_eq_true', Bool.not_eq_false', beq_iff_eq, bne_iff_ne, ne_eq, beq_eq_false_iff_ne, bne_eq_false_iff_eq, ge_iff_le, gt_iff_lt, Int.not_le, Int.not_lt, reduceCtorEq, false_implies, true_implies, forall_const, and_true, true_and, Bool.true_eq_false, Bool.false_eq_true, implies_true, not_true_eq_false, not_false_eq_true, decide_true, decide_false, Bool.not_true, Bool.not_false]
  refine ⟨fun hlt => ret_gI (by omega) hlt fun u hu hum => ?_, fun hge => ?_⟩
  · have hw := wrap_succ i (by omega)
    have hu' := hu
    rw [gI_nat] at hu'
    have skip : (EdgeOk s u → False) → Ret (J16_2 l (i : Int) (false, b)) fun a => Ret (Sum.elim (J16_1 (i : Int)) some a) (StepQ (fun q : Int × List Bool => ∃ i : Nat, q.1 = i ∧ i ≤ l.length ∧ q.2.length = s.2.1.length ∧ (∀ u, gI q.2 u = some true → u ∈ l) ∧ ∀ j u, j < i → l[j]? = some u → EdgeOk s u → gI q.2 u = some true) (fun q => l.length - q.1.toNat) (DepQ s l) ((i : Int), b)) := fun hno => by
      simp only [J16_2, J16_1, ret_some, ret_none, ret_bind, ret_map, ret_bif, Sum.elim_inl, Sum.elim_inr, decide_eq_true_eq, decide_eq_false_iff_not, stepQ_inl, stepQ_inr, Bool.not_eq_true', Bool.not_eq_false', beq_iff_eq, bne_iff_ne, ne_eq, beq_eq_false_iff_ne, bne_eq_false_iff_eq, ge_iff_le, gt_iff_lt, Int.not_le, Int.not_lt, reduceCtorEq, false_implies, true_implies, forall_const, and_true, true_and, Bool.true_eq_false, Bool.false_eq_true, implies_true, not_true_eq_false, not_false_eq_true, decide_true, decide_false, Bool.not_true, Bool.not_false, hw]
      refine ⟨⟨i + 1, rfl, by omega, hlen, hsub, fun j v hj hv he => ?_⟩, by omega⟩
      by_cases e : j < i
      · exact hhas j v e hv he
      · have : j = i := by omega
        subst this
        rw [hu'] at hv; cases hv
        exact absurd he hno
    refine ⟨fun h0 => ?_, fun h0 => skip fun he => by have := he.lt; omega⟩
    rw [ret_eq hu]
    by_cases h1 : u < (b.length : Int)
    · simp only [h1, J16_2, ret_some, ret_none, ret_bind, ret_map, ret_bif, Sum.elim_inl, Sum.elim_inr, decide_eq_true_eq, decide_eq_false_iff_not, stepQ_inl, stepQ_inr, Bool.not_eq_true', Bool.not_eq_false', beq_iff_eq, bne_iff_ne, ne_eq, beq_eq_false_iff_ne, bne_eq_false_iff_eq, ge_iff_le, gt_iff_lt, Int.not_le, Int.not_lt, reduceCtorEq, false_implies, true_implies, forall_const, and_true, true_and, Bool.true_eq_false, Bool.false_eq_true, implies_true, not_true_eq_false, not_false_eq_true, decide_true, decide_false, Bool.not_true, Bool.not_false, ret_eq hu]
      refine ret_gI h0 h1 fun c hc _ => ?_
      simp only [ret_eq hc, J16_1, ret_some, ret_none, ret_bind, ret_map, ret_bif, Sum.elim_inl, Sum.elim_inr, decide_eq_true_eq, decide_eq_false_iff_not, stepQ_inl, stepQ_inr, Bool.not_eq_true', Bool.not_eq_false', beq_iff_eq, bne_iff_ne, ne_eq, beq_eq_false_iff_ne, bne_eq_false_iff_eq, ge_iff_le, gt_iff_lt, Int.not_le, Int.not_lt, reduceCtorEq, false_implies, true_implies, forall_const, and_true, true_and, Bool.true_eq_false, Bool.false_eq_true, implies_true, not_true_eq_false, not_false_eq_true, decide_true, decide_false, Bool.not_true, Bool.not_false, hw]
      refine ⟨⟨i + 1, rfl, by omega, by rw [setI_len]; exact hlen, fun v hv => ?_, fun j v hj hv he => ?_⟩, by omega⟩
      · rcases gI_set_inv h0 hv with rfl | h
        · exact hum
        · exact hsub v h
      · by_cases e : j < i
        · exact gI_set_t h0 h1 (hhas j v e hv he)
        · have : j = i := by omega
          subst this
          rw [hu'] at hv; cases hv
          exact gI_set true h0 h1
    · rw [show decide (u < (b.length : Int)) = false by simp; omega]
      exact skip fun he => by have := he.lt; omega
  · have hil : i = l.length := by omega
    rw [wrap_id (by omega) (by omega)]
    have R0 : Rf s l ((b.length : Int) - 1) b := by
      refine ⟨hlen, fun u hu he => .base (hsub u hu) he, fun u hu he => ?_, fun u hu hb he => ?_⟩
      · obtain ⟨j, hj⟩ := List.getElem?_of_mem hu
        exact hhas j u (by have := (List.getElem?_eq_some_iff.1 hj).1; omega) hj he
      · have := he.lt; omega
    refine ret_loop (fun q : Int × List Bool => -1 ≤ q.1 ∧ q.1 < s.2.1.length ∧ Rf s l q.1 q.2) (fun q => (q.1 + 1).toNat) ?_ _ ⟨by dsimp only; omega, by dsimp only; omega, R0⟩
    rintro ⟨t, b⟩ ⟨t0, t1, R⟩
    dsimp only at t0 t1 R
    have hbl := R.len
    simp only [L16_2, ret_some, ret_none, ret_bind, ret_map, ret_bif, Sum.elim_inl, Sum.elim_inr, decide_eq_true_eq, decide_eq_false_iff_not, stepQ_inl, stepQ_inr, Bool.not_eq_true', Bool.not_eq_false', beq_iff_eq, bne_iff_ne, ne_eq, beq_eq_false_iff_ne, bne_eq_false_iff_eq, ge_iff_le, gt_iff_lt, Int.not_le, Int.not_lt, reduceCtorEq, false_implies, true_implies, forall_const, and_true, true_and, Bool.true_eq_false, Bool.false_eq_true, implies_true, not_true_eq_false, not_false_eq_true, decide_true, decide_false, Bool.not_true, Bool.not_false]
    refine ⟨fun hge => ret_gI hge t1 fun x hx _ => ret_gI hge (by omega) fun c hc _ => ?_, fun hlt => ?_⟩
    · have done : ∀ b', Rf s l (t - 1) b' → Ret (J16_3 t b') (StepQ (fun q : Int × List Bool => -1 ≤ q.1 ∧ q.1 < s.2.1.length ∧ Rf s l q.1 q.2) (fun q => (q.1 + 1).toNat) (DepQ s l) (t, b)) := fun b' R' => by
        simp only [J16_3, ret_some, ret_none, ret_bind, ret_map, ret_bif, Sum.elim_inl, Sum.elim_inr, decide_eq_true_eq, decide_eq_false_iff_not, stepQ_inl, stepQ_inr, Bool.not_eq_true', Bool.not_eq_false', beq_iff_eq, bne_iff_ne, ne_eq, beq_eq_false_iff_ne, bne_eq_false_iff_eq, ge_iff_le, gt_iff_lt, Int.not_le, Int.not_lt, reduceCtorEq, false_implies, true_implies, forall_const, and_true, true_and, Bool.true_eq_false, Bool.false_eq_true, implies_true, not_true_eq_false, not_false_eq_true, decide_true, decide_false, Bool.not_true, Bool.not_false, wrap_id (n := t - 1) (by omega) (by omega)]
        exact ⟨⟨by omega, by omega, R'⟩, by omega⟩
      have skip : (gI b t = some true → EdgeOk s t → ∀ v, Succ s t v → False) → Ret (J16_4 s t x (true, b)) fun a => Ret (Sum.elim (J16_3 t) some a) (StepQ (fun q : Int × List Bool => -1 ≤ q.1 ∧ q.1 < s.2.1.length ∧ Rf s l q.1 q.2) (fun q => (q.1 + 1).toNat) (DepQ s l) (t, b)) := fun hno => by
        simp only [J16_4, ret_some, ret_none, ret_bind, ret_map, ret_bif, Sum.elim_inl, Sum.elim_inr, decide_eq_true_eq, decide_eq_false_iff_not, stepQ_inl, stepQ_inr, Bool.not_eq_true', Bool.not_eq_false', beq_iff_eq, bne_iff_ne, ne_eq, beq_eq_false_iff_ne, bne_eq_false_iff_eq, ge_iff_le, gt_iff_lt, Int.not_le, Int.not_lt, reduceCtorEq, false_implies, true_implies, forall_const, and_true, true_and, Bool.true_eq_false, Bool.false_eq_true, implies_true, not_true_eq_false, not_false_eq_true, decide_true, decide_false, Bool.not_true, Bool.not_false]
        refine done b ⟨R.len, R.sound, R.base, fun u hu hb he v hv => ?_⟩
        by_cases e : t < u
        · exact R.closed u e hb he v hv
        · have : u = t := by omega
          subst this
          exact absurd hv (fun h => hno hb he v h)
      simp only [ret_eq hc, F41_eq]
      refine ⟨fun hcf => skip (fun hb => by rw [hc, hcf] at hb; cases hb), fun hct => ⟨fun hwhy => skip fun _ _ v hv => ?_, fun hwhy => ?_⟩⟩
      · obtain ⟨x', _, _, _, _, _, hx', h0, _⟩ := hv
        rw [hx] at hx'; cases hx'
        exact hwhy h0
      · simp only [ret_some, ret_none, ret_bind, ret_map, ret_bif, Sum.elim_inl, Sum.elim_inr, decide_eq_true_eq, decide_eq_false_iff_not, stepQ_inl, stepQ_inr, Bool.not_eq_true', Bool.not_eq_false', beq_iff_eq, bne_iff_ne, ne_eq, beq_eq_false_iff_ne, bne_eq_false_iff_eq, ge_iff_le, gt_iff_lt, Int.not_le, Int.not_lt, reduceCtorEq, false_implies, true_implies, forall_const, and_true, true_and, Bool.true_eq_false, Bool.false_eq_true, implies_true, not_true_eq_false, not_false_eq_true, decide_true, decide_false, Bool.not_true, Bool.not_false]
        by_cases hed : inR s.1.length x.1 ∧ inR s.1.length x.2.1
        · rw [show decide (inR s.1.length x.1 ∧ inR s.1.length x.2.1) = true by simp [hed]]
          obtain ⟨y, hy, hym⟩ := gI_ok hed.1.1 hed.1.2
          obtain ⟨z, hz, hzm⟩ := gI_ok hed.2.1 hed.2.2
          have het : EdgeOk s t := ⟨x, hx, hed.1, hed.2⟩
          have hbt : gI b t = some true := by rw [hc, hct]
          simp only [J16_4, ret_some, ret_none, ret_bind, ret_map, ret_bif, Sum.elim_inl, Sum.elim_inr, decide_eq_true_eq, decide_eq_false_iff_not, stepQ_inl, stepQ_inr, Bool.not_eq_true', Bool.not_eq_false', beq_iff_eq, bne_iff_ne, ne_eq, beq_eq_false_iff_ne, bne_eq_false_iff_eq, ge_iff_le, gt_iff_lt, Int.not_le, Int.not_lt, reduceCtorEq, false_implies, true_implies, forall_const, and_true, true_and, Bool.true_eq_false, Bool.false_eq_true, implies_true, not_true_eq_false, not_false_eq_true, decide_true, decide_false, Bool.not_true, Bool.not_false, ret_eq hy, ret_eq hz]
          exact loop16_3 hs hn l hx hwhy hy hz (R.sound t hbt het) (hk y hym) ⟨R, hbt, fun j p q hj => by omega⟩ fun b' R' => done b' R'
        · rw [show decide (inR s.1.length x.1 ∧ inR s.1.length x.2.1) = false by simp; intro h; exact fun h' => hed ⟨h, h'⟩]
          exact skip fun _ he v _ => by
            obtain ⟨x', hx', h1, h2⟩ := he
            rw [hx] at hx'; cases hx'
            exact hed ⟨h1, h2⟩
    · have ht : t = -1 := by omega
      subst ht
      have key : ∀ v, Dep s l v → gI b v = some true := by
        intro v hv
        induction hv with
        | base h1 h2 => exact R.base _ h1 h2
        | step h1 h2 ih =>
          have := h1.edge hs hn
          exact R.closed _ (by have := this.lt; omega) ih this _ h2
      have fin : Ret (loopL (L16_5 s) (0, b, [])) fun out => out = idxs s.2.1.length fun t => b[t]? == some true && (match s.2.1[t]? with | some x => decide (inR s.1.length x.1 ∧ inR s.1.length x.2.1) | none => false) := by
        refine ret_loop (fun q : Int × List Bool × List Int => ∃ i : Nat, q.1 = i ∧ i ≤ s.2.1.length ∧ q.2.1 = b ∧ q.2.2 = idxs i (fun t => b[t]? == some true && (match s.2.1[t]? with | some x => decide (inR s.1.length x.1 ∧ inR s.1.length x.2.1) | none => false))) (fun q => s.2.1.length - q.1.toNat) ?_ _ ⟨0, rfl, by omega, rfl, rfl⟩
        rintro ⟨i', b', out⟩ ⟨i, e1, hi, e2, e3⟩
        dsimp only at e1 e2 e3
        subst e1 e2 e3
        simp only [L16_5, ret_some, ret_none, ret_bind, ret_map, ret_bif, Sum.elim_inl, Sum.elim_inr, decide_eq_true_eq, decide_eq_false_iff_not, stepQ_inl, stepQ_inr, Bool.not_eq_true', Bool.not_eq_false', beq_iff_eq, bne_iff_ne, ne_eq, beq_eq_false_iff_ne, bne_eq_false_iff_eq, ge_iff_le, gt_iff_lt, Int.not_le, Int.not_lt, reduceCtorEq, false_implies, true_implies, forall_const, and_true, true_and, Bool.true_eq_false, Bool.false_eq_true, implies_true, not_true_eq_false, not_false_eq_true, decide_true, decide_false, Bool.not_true, Bool.not_false, hbl]
        refine ⟨fun hlt => ret_gI (by omega) (by omega) fun c hc _ => ?_, fun hge => ?_⟩
        · have hw := wrap_succ i (by omega)
          have hlen := idxs_len i fun t => b'[t]? == some true && (match s.2.1[t]? with | some x => decide (inR s.1.length x.1 ∧ inR s.1.length x.2.1) | none => false)
          have hil : i < s.2.1.length := by omega
          have hx : s.2.1[i]? = some s.2.1[i] := List.getElem?_eq_getElem hil
          have hg : gI s.2.1 (i : Int) = some s.2.1[i] := by rw [gI_nat, hx]
          generalize s.2.1[i] = x at hx hg
          have hc' := hc
          rw [gI_nat] at hc'
          simp only [ret_eq hc, ret_eq hg, F41_eq, J16_6, J16_7, ret_some, ret_none, ret_bind, ret_map, ret_bif, Sum.elim_inl, Sum.elim_inr, decide_eq_true_eq, decide_eq_false_iff_not, stepQ_inl, stepQ_inr, Bool.not_eq_true', Bool.not_eq_false', beq_iff_eq, bne_iff_ne, ne_eq, beq_eq_false_iff_ne, bne_eq_false_iff_eq, ge_iff_le, gt_iff_lt, Int.not_le, Int.not_lt, reduceCtorEq, false_implies, true_implies, forall_const, and_true, true_and, Bool.true_eq_false, Bool.false_eq_true, implies_true, not_true_eq_false, not_false_eq_true, decide_true, decide_false, Bool.not_true, Bool.not_false, hw]
          refine ⟨fun hct => ⟨fun hin => ⟨fun _ => ?_, fun h => absurd h (by simp only [List.length_cons, List.length_nil]; omega)⟩, fun hno => ?_⟩, fun hcf => ?_⟩
          · refine ⟨⟨i + 1, rfl, by omega, ?_⟩, by omega⟩
            rw [idxs_succ, hc', hct, hx]; simp [hin]
          · refine ⟨⟨i + 1, rfl, by omega, ?_⟩, by omega⟩
            rw [idxs_succ, hc', hct, hx]; simp [hno]
          · refine ⟨⟨i + 1, rfl, by omega, ?_⟩, by omega⟩
            rw [idxs_succ, hc', hcf]; simp
        · have : i = s.2.1.length := by omega
          rw [this]
      refine Ret.mono fin fun out _ ho => ⟨_, ho, fun t ht => ?_⟩
      have hx : s.2.1[t]? = some s.2.1[t] := List.getElem?_eq_getElem ht
      generalize s.2.1[t] = x at hx
      rw [hx]
      simp only [Bool.and_eq_true, beq_iff_eq, decide_eq_true_eq]
      constructor
      · rintro ⟨h1, h2⟩
        exact R.sound _ (by rw [gI_nat]; exact h1) ⟨x, by rw [gI_nat]; exact hx, h2.1, h2.2⟩
      · intro h
        have h1 := key _ h
        rw [gI_nat] at h1
        obtain ⟨x', hx', h2, h3⟩ := h.edge hs hn
        rw [gI_nat, hx] at hx'; cases hx'
        exact ⟨h1, h2, h3⟩
end

/-! the law -/
theorem F4_ok (l steps : List Int) (how at' a b below : Int) (sm : List Int) (hsm : sm.length ≤ 9223372036854775807) : F4 l steps how at' a b below sm = some true := by
  refine Ret.eq ?_
  simp only [F4, ret_some, ret_none, ret_bind, ret_map, ret_bif, Sum.elim_inl, Sum.elim_inr, decide_eq_true_eq, decide_eq_false_iff_not, stepQ_inl, stepQ_inr, Bool.not_eq_true', Bool.not_eq_false', beq_iff_eq, bne_iff_ne, ne_eq, beq_eq_false_iff_ne, bne_eq_false_iff_eq, ge_iff_le, gt_iff_lt, Int.not_le, Int.not_lt, reduceCtorEq, false_implies, true_implies, forall_const, and_true, true_and, Bool.true_eq_false, Bool.false_eq_true, implies_true, not_true_eq_false, not_false_eq_true, decide_true, decide_false, Bool.not_true, Bool.not_false]
  refine Ret.mono (F13_ok l steps how at') fun s _ hr => ?_
  have n0 := hr.n0
  have n1 := hr.n1
  have sl := hr.sl
  have hs : s.2.1.length ≤ 400000 := by omega
  have hn : s.1.length ≤ 100000 := by omega
  have hk : ∀ x ∈ s.1, x.2.2.length ≤ 100000 := fun x hx => by have := hr.nk x hx; omega
  have h3 : F3 = some true := rfl
  have same : ∀ a b below, F10 (pth s a b below).1 (pth s a b below).1 = some true := fun a b below => F10_self _ (by have := says_len (pth_says s a b below hs hn); omega)
  have deps : ∀ (l : List Int), l.length ≤ 9223372036854775807 → ∃ d, F11 s l = some d ∧ F16 s l = some d ∧ F10 d d = some true := fun l hl => by
    obtain ⟨d, e1, h1⟩ := F11_ok hs hn l hl hk
    obtain ⟨d', e2, h2⟩ := F16_ok hs hn l hl hk
    have := h1.uniq l h2
    subst this
    exact ⟨d, e1, e2, F10_self _ (by have := h1.len l; omega)⟩
  obtain ⟨d1, e1, e2, e3⟩ := deps sm hsm
  obtain ⟨d2, f1, f2, f3⟩ := deps ([0, 3, 5, 9, 12] : List Int) (by simp)
  refine ret_loop (fun i : Int => -1 ≤ i ∧ i ≤ s.1.length + 1) (fun i => (s.1.length + 1 - i).toNat) ?_ _ ⟨by omega, by omega⟩
  rintro i ⟨i0, i1⟩
  have p1 := F15_eq b s.1.length (by omega) (by omega)
  have p2 := F15_eq below 20 (by omega) (by omega)
  simp only [L4_1, F8_eq _ _ _ _ hs hn, F14_eq _ _ _ _ hs hn, p1, p2, ret_some, ret_none, ret_bind, ret_map, ret_bif, Sum.elim_inl, Sum.elim_inr, decide_eq_true_eq, decide_eq_false_iff_not, stepQ_inl, stepQ_inr, Bool.not_eq_true', Bool.not_eq_false', beq_iff_eq, bne_iff_ne, ne_eq, beq_eq_false_iff_ne, bne_eq_false_iff_eq, ge_iff_le, gt_iff_lt, Int.not_le, Int.not_lt, reduceCtorEq, false_implies, true_implies, forall_const, and_true, true_and, Bool.true_eq_false, Bool.false_eq_true, implies_true, not_true_eq_false, not_false_eq_true, decide_true, decide_false, Bool.not_true, Bool.not_false, same, e1, e2, e3, f1, f2, f3, h3, J4_2, J4_1]
  refine fun hle => ?_
  rw [wrap_id (by omega) (by omega)]
  omega
end Go.Dat
