/-
  Dependencies as the program computes them.
-/
import Derived.Test.YtffkjnaocflmdaaQ3
namespace Go.Dat
open Go.Eng
set_option linter.unusedSimpArgs false
set_option linter.unusedVariables false

structure Wk (s : SatT) (l : List Int) (ex : Int → Prop) (need : List Bool) (queue : List Int) : Prop where
  len : need.length = s.2.1.length
  sound : ∀ t : Nat, need[t]? = some true → Dep s l t
  base : ∀ t, t ∈ l → EdgeOk s t → gI need t = some true
  qs : ∀ x ∈ queue, gI need x = some true
  closed : ∀ u : Nat, need[u]? = some true → (u : Int) ∉ queue → ¬ ex u → ∀ t, Succ s u t → gI need t = some true
  cnt : queue.length + falses need ≤ s.2.1.length
theorem AddQ.up' {s : SatT} {l : List Int} {need need' : List Bool} {queue queue' : List Int} (h : AddQ s l need queue need' queue') {t : Int} (ht : gI need t = some true) : gI need' t = some true := by
  obtain ⟨h0, h1, h2⟩ := gI_some ht
  have := h.up t.toNat h2
  unfold gI; rw [if_pos h0]; exact this
theorem Wk.add {s : SatT} {l row : List Int} {ex : Int → Prop} {need need' : List Bool} {queue queue' : List Int} (h : Wk s l ex need queue) (a : AddQ s row need queue need' queue') (hd : ∀ t ∈ row, EdgeOk s t → Dep s l t) : Wk s l ex need' queue' ∧ 2 * falses need' + queue'.length ≤ 2 * falses need + queue.length := by
  obtain ⟨new, h1, h2, h3, h4⟩ := a.q
  subst h1
  refine ⟨⟨by rw [a.len, h.len], fun t ht => ?_, fun t ht he => a.up' (h.base t ht he), fun x hx => ?_, fun u hu hq hx t ht => ?_, ?_⟩, ?_⟩
  · rcases h4 t ht with h5 | h5
    · exact h.sound t h5
    · obtain ⟨b, c, _⟩ := h3 _ h5
      exact hd _ b c
  · rcases List.mem_append.1 hx with hx | hx
    · exact a.up' (h.qs x hx)
    · exact (h3 x hx).2.2
  · rcases h4 u hu with h5 | h5
    · exact a.up' (h.closed u h5 (fun h6 => hq (List.mem_append_left _ h6)) hx t ht)
    · exact absurd (List.mem_append_right _ h5) hq
  · have := h.cnt
    simp only [List.length_append]; omega
  · simp only [List.length_append]; omega
theorem pth_mem {s : SatT} (hs : s.2.1.length ≤ 400000) (hn : s.1.length ≤ 100000) {a b below t : Int} (h : t ∈ (pth s a b below).1) : EdgeOk s t ∧ t < below := says_mem (pth_says s a b below hs hn) h

section
variable {s : SatT} (hs : s.2.1.length ≤ 400000) (hn : s.1.length ≤ 100000) (l : List Int)
include hs hn
/-- what Dependencies returns -/
def DepQ (s : SatT) (l : List Int) (out : List Int) : Prop := ∃ p : Nat → Bool, out = idxs s.2.1.length p ∧ ∀ t : Nat, t < s.2.1.length → (p t = true ↔ Dep s l (t : Int))
omit hs hn in
theorem DepQ.uniq {a b : List Int} (h : DepQ s l a) (h' : DepQ s l b) : a = b := by
  obtain ⟨p, rfl, hp⟩ := h
  obtain ⟨q, rfl, hq⟩ := h'
  refine idxs_congr fun i hi => ?_
  have h1 := hp i hi
  have h2 := hq i hi
  cases h3 : p i <;> cases h4 : q i <;> simp_all
omit hs hn in
theorem DepQ.len {a : List Int} (h : DepQ s l a) : a.length ≤ s.2.1.length := by
  obtain ⟨p, rfl, hp⟩ := h; exact idxs_len _ _
theorem loop11_2 {u : Int} {x : StepT} {y z : NodeT} (hx : gI s.2.1 u = some x) (hw0 : x.2.2.1 = 0) (hy : gI s.1 x.1 = some y) (hz : gI s.1 x.2.1 = some z) (hdu : Dep s l u) (hky : y.2.2.length ≤ 100000) (M : Nat) {need : List Bool} {queue : List Int} (W : Wk s l (· = u) need queue) (hM : 2 * falses need + queue.length < M)
    {Q : ((List NodeT) × (List StepT) × (List (Int × Int × Int)) × Int × Int × Int × Int × List Bool × List Int) ⊕ (List Int) → Prop}
    (hQ : ∀ need' queue', Wk s l (fun _ => False) need' queue' → 2 * falses need' + queue'.length < M → Q (.inl (s.1, s.2.1, s.2.2.1, s.2.2.2.1, s.2.2.2.2.1, s.2.2.2.2.2.1, s.2.2.2.2.2.2, need', queue'))) :
    Ret (loopL (L11_2 y z (grM s u)) (0, s.1, s.2.1, s.2.2.1, s.2.2.2.1, s.2.2.2.2.1, s.2.2.2.2.2.1, s.2.2.2.2.2.2, need, queue)) Q := by
  have hgl : (grM s u).length = s.1.length := edgesM_len _ _ _
  refine ret_loop (fun q => ∃ k : Nat, k ≤ y.2.2.length ∧ ∃ n' q', q = ((k : Int), s.1, s.2.1, s.2.2.1, s.2.2.2.1, s.2.2.2.2.1, s.2.2.2.2.2.1, s.2.2.2.2.2.2, n', q') ∧ Wk s l (· = u) n' q' ∧ 2 * falses n' + q'.length < M ∧ ∀ j p q, j < k → y.2.2[j]? = some p → z.2.2[j]? = some q → ∀ t ∈ (pth s p q u).1, gI n' t = some true) (fun q => y.2.2.length - q.1.toNat) ?_ _ ⟨0, by omega, need, queue, rfl, W, hM, fun j p q hj => by omega⟩
  rintro _ ⟨k, hk, n', q', rfl, W', hM', hpart⟩
  have stop : (∀ p q, y.2.2[k]? = some p → z.2.2[k]? = some q → False) → Q (.inl (s.1, s.2.1, s.2.2.1, s.2.2.2.1, s.2.2.2.2.1, s.2.2.2.2.2.1, s.2.2.2.2.2.2, n', q')) := fun hend => by
    refine hQ n' q' ⟨W'.len, W'.sound, W'.base, W'.qs, fun v hv hq _ t ht => ?_, W'.cnt⟩ hM'
    by_cases e : (v : Int) = u
    · obtain ⟨x', y', z', j, p, q, hx', _, hy', hz', hp, hq', ht'⟩ := ht
      rw [e, hx] at hx'; cases hx'
      rw [hy] at hy'; cases hy'
      rw [hz] at hz'; cases hz'
      rw [e] at ht'
      by_cases hjk : j < k
      · exact hpart j p q hjk hp hq' t ht'
      · exfalso
        have h1 := (List.getElem?_eq_some_iff.1 hp).1
        have h2 := (List.getElem?_eq_some_iff.1 hq').1
        exact hend _ _ (List.getElem?_eq_getElem (show k < y.2.2.length by omega)) (List.getElem?_eq_getElem (show k < z.2.2.length by omega))
    · exact W'.closed v hv hq e t ht
  have fin : Q (.inl (s.1, s.2.1, s.2.2.1, s.2.2.2.1, s.2.2.2.2.1, s.2.2.2.2.2.1, s.2.2.2.2.2.2, n', q')) → Ret (J11_1 y z (grM s u) (k : Int) (false, s.1, s.2.1, s.2.2.1, s.2.2.2.1, s.2.2.2.2.1, s.2.2.2.2.2.1, s.2.2.2.2.2.2, n', q')) (StepQ (fun q => ∃ k : Nat, k ≤ y.2.2.length ∧ ∃ n' q', q = ((k : Int), s.1, s.2.1, s.2.2.1, s.2.2.2.1, s.2.2.2.2.1, s.2.2.2.2.2.1, s.2.2.2.2.2.2, n', q') ∧ Wk s l (· = u) n' q' ∧ 2 * falses n' + q'.length < M ∧ ∀ j p q, j < k → y.2.2[j]? = some p → z.2.2[j]? = some q → ∀ t ∈ (pth s p q u).1, gI n' t = some true) (fun q => y.2.2.length - q.1.toNat) Q ((k : Int), s.1, s.2.1, s.2.2.1, s.2.2.2.1, s.2.2.2.2.1, s.2.2.2.2.2.1, s.2.2.2.2.2.2, n', q')) := fun hq => by
    simp only [J11_1, ret_some, ret_none, ret_bind, ret_map, ret_bif, Sum.elim_inl, Sum.elim_inr, decide_eq_true_eq, decide_eq_false_iff_not, stepQ_inl, stepQ_inr, Bool.not_eq_true', Bool.not_eq_false', beq_iff_eq, bne_iff_ne, ne_eq, beq_eq_false_iff_ne, bne_eq_false_iff_eq, ge_iff_le, gt_iff_lt, Int.not_le, Int.not_lt, reduceCtorEq, false_implies, true_implies, forall_const, and_true, true_and, Bool.true_eq_false, Bool.false_eq_true, implies_true, not_true_eq_false, not_false_eq_true, decide_true, decide_false, Bool.not_true, Bool.not_false]; exact hq
  simp only [L11_2, ret_some, ret_none, ret_bind, ret_map, ret_bif, Sum.elim_inl, Sum.elim_inr, decide_eq_true_eq, decide_eq_false_iff_not, stepQ_inl, stepQ_inr, Bool.not_eq_true', Bool.not_eq_false', beq_iff_eq, bne_iff_ne, ne_eq, beq_eq_false_iff_ne, bne_eq_false_iff_eq, ge_iff_le, gt_iff_lt, Int.not_le, Int.not_lt, reduceCtorEq, false_implies, true_implies, forall_const, and_true, true_and, Bool.true_eq_false, Bool.false_eq_true, implies_true, not_true_eq_false, not_false_eq_true, decide_true, decide_false, Bool.not_true, Bool.not_false]
  refine ⟨fun hlt => ?_, fun hge => fin (stop fun p q hp _ => by have := (List.getElem?_eq_some_iff.1 hp).1; omega)⟩
  by_cases hz2 : k < z.2.2.length
  · rw [show decide ((k : Int) < (z.2.2.length : Int)) = true by simp; omega]
    have hky' : k < y.2.2.length := by omega
    obtain ⟨p, hp⟩ : ∃ p, y.2.2[k]? = some p := ⟨_, List.getElem?_eq_getElem hky'⟩
    obtain ⟨q, hq⟩ : ∃ q, z.2.2[k]? = some q := ⟨_, List.getElem?_eq_getElem hz2⟩
    have gp : gI y.2.2 (k : Int) = some p := by rw [gI_nat, hp]
    have gq : gI z.2.2 (k : Int) = some q := by rw [gI_nat, hq]
    have hwk := wrap_succ k (by omega)
    have hsucc : ∀ t ∈ (pth s p q u).1, Succ s u t := fun t ht => ⟨x, y, z, k, p, q, hx, hw0, hy, hz, hp, hq, ht⟩
    have next : ∀ n2 q2, Wk s l (· = u) n2 q2 → 2 * falses n2 + q2.length < M → (∀ t : Int, gI n' t = some true → gI n2 t = some true) → (∀ t ∈ (pth s p q u).1, gI n2 t = some true) → Ret (J11_2 (k : Int) (s.1, s.2.1, s.2.2.1, s.2.2.2.1, s.2.2.2.2.1, s.2.2.2.2.2.1, s.2.2.2.2.2.2, n2, q2)) (StepQ (fun q => ∃ k : Nat, k ≤ y.2.2.length ∧ ∃ n' q', q = ((k : Int), s.1, s.2.1, s.2.2.1, s.2.2.2.1, s.2.2.2.2.1, s.2.2.2.2.2.1, s.2.2.2.2.2.2, n', q') ∧ Wk s l (· = u) n' q' ∧ 2 * falses n' + q'.length < M ∧ ∀ j p q, j < k → y.2.2[j]? = some p → z.2.2[j]? = some q → ∀ t ∈ (pth s p q u).1, gI n' t = some true) (fun q => y.2.2.length - q.1.toNat) Q ((k : Int), s.1, s.2.1, s.2.2.1, s.2.2.2.1, s.2.2.2.2.1, s.2.2.2.2.2.1, s.2.2.2.2.2.2, n', q')) := fun n2 q2 W2 hM2 hup hall => by
      simp only [J11_2, ret_some, stepQ_inl, hwk]
      refine ⟨⟨k + 1, by omega, n2, q2, rfl, W2, hM2, fun j p' q' hj hp' hq' t ht => ?_⟩, by show y.2.2.length - (((k + 1 : Nat) : Int)).toNat < y.2.2.length - ((k : Int)).toNat; omega⟩
      by_cases e : j < k
      · exact hup t (hpart j p' q' e hp' hq' t ht)
      · have : j = k := by omega
        subst this
        rw [hp] at hp'; cases hp'
        rw [hq] at hq'; cases hq'
        exact hall t ht
    have none' : (pth s p q u).1 = [] → Ret (J11_2 (k : Int) (s.1, s.2.1, s.2.2.1, s.2.2.2.1, s.2.2.2.2.1, s.2.2.2.2.2.1, s.2.2.2.2.2.2, n', q')) (StepQ (fun q => ∃ k : Nat, k ≤ y.2.2.length ∧ ∃ n' q', q = ((k : Int), s.1, s.2.1, s.2.2.1, s.2.2.2.1, s.2.2.2.2.1, s.2.2.2.2.2.1, s.2.2.2.2.2.2, n', q') ∧ Wk s l (· = u) n' q' ∧ 2 * falses n' + q'.length < M ∧ ∀ j p q, j < k → y.2.2[j]? = some p → z.2.2[j]? = some q → ∀ t ∈ (pth s p q u).1, gI n' t = some true) (fun q => y.2.2.length - q.1.toNat) Q ((k : Int), s.1, s.2.1, s.2.2.1, s.2.2.2.1, s.2.2.2.2.1, s.2.2.2.2.2.1, s.2.2.2.2.2.2, n', q')) := fun he => next n' q' W' hM' (fun _ h => h) (fun t ht => by rw [he] at ht; cases ht)
    have says := pth_says s p q u hs hn
    simp only [J11_1, ret_some, ret_none, ret_bind, ret_map, ret_bif, Sum.elim_inl, Sum.elim_inr, decide_eq_true_eq, decide_eq_false_iff_not, stepQ_inl, stepQ_inr, Bool.not_eq_true', Bool.not_eq_false', beq_iff_eq, bne_iff_ne, ne_eq, beq_eq_false_iff_ne, bne_eq_false_iff_eq, ge_iff_le, gt_iff_lt, Int.not_le, Int.not_lt, reduceCtorEq, false_implies, true_implies, forall_const, and_true, true_and, Bool.true_eq_false, Bool.false_eq_true, implies_true, not_true_eq_false, not_false_eq_true, decide_true, decide_false, Bool.not_true, Bool.not_false, ret_eq gp, ret_eq gq, F26_eq]
    refine ⟨fun hip => ?_, fun hip => ?_⟩
    · by_cases hiq : inR s.1.length q
      · simp only [J11_3, hiq, ret_some, ret_none, ret_bind, ret_map, ret_bif, Sum.elim_inl, Sum.elim_inr, decide_eq_true_eq, decide_eq_false_iff_not, stepQ_inl, stepQ_inr, Bool.not_eq_true', Bool.not_eq_false', beq_iff_eq, bne_iff_ne, ne_eq, beq_eq_false_iff_ne, bne_eq_false_iff_eq, ge_iff_le, gt_iff_lt, Int.not_le, Int.not_lt, reduceCtorEq, false_implies, true_implies, forall_const, and_true, true_and, Bool.true_eq_false, Bool.false_eq_true, implies_true, not_true_eq_false, not_false_eq_true, decide_true, decide_false, Bool.not_true, Bool.not_false, ret_eq gp, ret_eq gq]
        obtain ⟨i, rfl⟩ : ∃ i : Nat, p = (i : Int) := ⟨p.toNat, by have := hip.1; omega⟩
        obtain ⟨j, rfl⟩ : ∃ j : Nat, q = (j : Int) := ⟨q.toNat, by have := hiq.1; omega⟩
        have hrl : RowLe (grM s u) 1000000 := fun r hr => by have := edgesM_le _ _ _ r hr; omega
        refine Ret.mono (F27_ok (edges_und _ _ _) (by omega) hrl (by have := hip.2; omega) (by have := hiq.2; omega)) fun r _ hr => ?_
        obtain ⟨D, hD, e⟩ := hr
        have hpr : pth s (i : Int) (j : Int) u = (r.1, r.2) := pth_of hs hn (.inr ⟨hip, hiq, D, hD, e⟩)
        refine ⟨fun hok => ?_, fun hok => none' (by rw [hpr] at says ⊢; exact says_no says hok)⟩
        have hrl := says_len says
        rw [hpr] at hrl
        have hc := W'.cnt
        refine Ret.mono (F33_ok (s := s) r.1 n' q' (by simp only at hrl; omega) W'.len (by omega)) fun res _ hres => ?_
        obtain ⟨n2, q2, rfl, A⟩ := hres
        have hdep : ∀ t ∈ r.1, EdgeOk s t → Dep s l t := fun t ht _ => .step hdu (hsucc t (by rw [hpr]; exact ht))
        obtain ⟨W2, hM2⟩ := W'.add A hdep
        refine next n2 q2 W2 (by omega) (fun t ht => A.up' ht) (fun t ht => ?_)
        have he := (pth_mem hs hn ht).1
        rw [hpr] at ht
        exact A.has t ht he
      · simp only [J11_3, hiq, ret_some, ret_none, ret_bind, ret_map, ret_bif, Sum.elim_inl, Sum.elim_inr, decide_eq_true_eq, decide_eq_false_iff_not, stepQ_inl, stepQ_inr, Bool.not_eq_true', Bool.not_eq_false', beq_iff_eq, bne_iff_ne, ne_eq, beq_eq_false_iff_ne, bne_eq_false_iff_eq, ge_iff_le, gt_iff_lt, Int.not_le, Int.not_lt, reduceCtorEq, false_implies, true_implies, forall_const, and_true, true_and, Bool.true_eq_false, Bool.false_eq_true, implies_true, not_true_eq_false, not_false_eq_true, decide_true, decide_false, Bool.not_true, Bool.not_false]
        refine none' ?_
        rcases says with ⟨_, h, _⟩ | ⟨_, h, _⟩
        · exact h
        · exact absurd h hiq
    · simp only [J11_3, ret_some, ret_none, ret_bind, ret_map, ret_bif, Sum.elim_inl, Sum.elim_inr, decide_eq_true_eq, decide_eq_false_iff_not, stepQ_inl, stepQ_inr, Bool.not_eq_true', Bool.not_eq_false', beq_iff_eq, bne_iff_ne, ne_eq, beq_eq_false_iff_ne, bne_eq_false_iff_eq, ge_iff_le, gt_iff_lt, Int.not_le, Int.not_lt, reduceCtorEq, false_implies, true_implies, forall_const, and_true, true_and, Bool.true_eq_false, Bool.false_eq_true, implies_true, not_true_eq_false, not_false_eq_true, decide_true, decide_false, Bool.not_true, Bool.not_false]
      refine none' ?_
      rcases says with ⟨_, h, _⟩ | ⟨h, _⟩
      · exact h
      · exact absurd h hip
  · rw [show decide ((k : Int) < (z.2.2.length : Int)) = false by simp; omega]
    exact fin (stop fun p q _ hq => by have := (List.getElem?_eq_some_iff.1 hq).1; omega)
omit hn in
theorem loop11_3 {need : List Bool} (hl : need.length = s.2.1.length) : Ret (loopL (L11_3 need) (0, [], need)) fun out => out = idxs s.2.1.length fun t => need[t]? == some true := by
  refine ret_loop (fun q : Int × List Int × List Bool => ∃ i : Nat, q.1 = i ∧ i ≤ s.2.1.length ∧ q.2.1 = idxs i (fun t => need[t]? == some true) ∧ q.2.2 = need) (fun q => s.2.1.length - q.1.toNat) ?_ _ ⟨0, rfl, by omega, rfl, rfl⟩
  rintro ⟨i', out, n'⟩ ⟨i, e1, hi, e2, e3⟩
  dsimp only at e1 e2 e3
  subst e1 e2 e3
  simp only [L11_3, ret_some, ret_none, ret_bind, ret_map, ret_bif, Sum.elim_inl, Sum.elim_inr, decide_eq_true_eq, decide_eq_false_iff_not, stepQ_inl, stepQ_inr, Bool.not_eq_true', Bool.not_eq_false', beq_iff_eq, bne_iff_ne, ne_eq, beq_eq_false_iff_ne, bne_eq_false_iff_eq, ge_iff_le, gt_iff_lt, Int.not_le, Int.not_lt, reduceCtorEq, false_implies, true_implies, forall_const, and_true, true_and, Bool.true_eq_false, Bool.false_eq_true, implies_true, not_true_eq_false, not_false_eq_true, decide_true, decide_false, Bool.not_true, Bool.not_false, hl]
  refine ⟨fun hlt => ret_gI (by omega) (by omega) fun b hb _ => ?_, fun hge => ?_⟩
  · have hw := wrap_succ i (by omega)
    have hlen := idxs_len i fun t => n'[t]? == some true
    simp only [ret_eq hb, J11_4, ret_some, ret_none, ret_bind, ret_map, ret_bif, Sum.elim_inl, Sum.elim_inr, decide_eq_true_eq, decide_eq_false_iff_not, stepQ_inl, stepQ_inr, Bool.not_eq_true', Bool.not_eq_false', beq_iff_eq, bne_iff_ne, ne_eq, beq_eq_false_iff_ne, bne_eq_false_iff_eq, ge_iff_le, gt_iff_lt, Int.not_le, Int.not_lt, reduceCtorEq, false_implies, true_implies, forall_const, and_true, true_and, Bool.true_eq_false, Bool.false_eq_true, implies_true, not_true_eq_false, not_false_eq_true, decide_true, decide_false, Bool.not_true, Bool.not_false, hw]
    rw [gI_nat] at hb
    refine ⟨fun hbt => ⟨fun _ => ?_, fun h => absurd h (by simp only [List.length_cons, List.length_nil]; omega)⟩, fun hbf => ?_⟩
    · refine ⟨⟨i + 1, rfl, by omega, ?_⟩, by omega⟩
      rw [idxs_succ, hb, hbt]; rfl
    · refine ⟨⟨i + 1, rfl, by omega, ?_⟩, by omega⟩
      rw [idxs_succ, hb, hbf]; simp
  · have : i = s.2.1.length := by omega
    rw [this]
theorem F11_ok (hl : l.length ≤ 9223372036854775807) (hk : ∀ x ∈ s.1, x.2.2.length ≤ 100000) : Ret (F11 s l) (DepQ s l) := by
  simp only [F11, ret_some, ret_none, ret_bind, ret_map, ret_bif, Sum.elim_inl, Sum.elim_inr, decide_eq_true_eq, decide_eq_false_iff_not, stepQ_inl, stepQ_inr, Bool.not_eq_true', Bool.not_eq_false', beq_iff_eq, bne_iff_ne, ne_eq, beq_eq_false_iff_ne, bne_eq_false_iff_eq, ge_iff_le, gt_iff_lt, Int.not_le, Int.not_lt, reduceCtorEq, false_implies, true_implies, forall_const, and_true, true_and, Bool.true_eq_false, Bool.false_eq_true, implies_true, not_true_eq_false, not_false_eq_true, decide_true, decide_false, Bool.not_true, Bool.not_false]
  refine ⟨fun _ => ?_, fun h => absurd h (by omega)⟩
  have hrep : (List.replicate (Int.toNat (s.2.1.length : Int)) false).length = s.2.1.length := by simp
  have hfr : falses (List.replicate (Int.toNat (s.2.1.length : Int)) false) = s.2.1.length := by rw [falses_rep]; simp
  refine Ret.mono (F33_ok (s := s) l _ [] hl hrep (by rw [hfr]; simp; omega)) fun r _ hr => ?_
  obtain ⟨n0, q0, rfl, A⟩ := hr
  have W0 : Wk s l (fun _ => False) n0 q0 := by
    obtain ⟨new, h1, h2, h3, h4⟩ := A.q
    rw [List.nil_append] at h1
    subst h1
    have h5 : ∀ t : Nat, n0[t]? = some true → (t : Int) ∈ q0 := fun t ht => by
      rcases h4 t ht with h | h
      · rw [List.getElem?_replicate] at h
        split at h <;> cases h
      · exact h
    exact ⟨by rw [A.len, hrep], fun t ht => .base (h3 _ (h5 t ht)).1 (h3 _ (h5 t ht)).2.1, A.has, fun x hx => (h3 x hx).2.2, fun u hu hq => absurd (h5 u hu) hq, by rw [hfr] at h2; omega⟩
  refine ret_loop (fun q => ∃ n' q', q = (s.1, s.2.1, s.2.2.1, s.2.2.2.1, s.2.2.2.2.1, s.2.2.2.2.2.1, s.2.2.2.2.2.2, n', q') ∧ Wk s l (fun _ => False) n' q') (fun q => 2 * falses q.2.2.2.2.2.2.2.1 + q.2.2.2.2.2.2.2.2.length) ?_ _ ⟨n0, q0, rfl, W0⟩
  rintro _ ⟨need, queue, rfl, W⟩
  simp only [L11_1, ret_some, ret_none, ret_bind, ret_map, ret_bif, Sum.elim_inl, Sum.elim_inr, decide_eq_true_eq, decide_eq_false_iff_not, stepQ_inl, stepQ_inr, Bool.not_eq_true', Bool.not_eq_false', beq_iff_eq, bne_iff_ne, ne_eq, beq_eq_false_iff_ne, bne_eq_false_iff_eq, ge_iff_le, gt_iff_lt, Int.not_le, Int.not_lt, reduceCtorEq, false_implies, true_implies, forall_const, and_true, true_and, Bool.true_eq_false, Bool.false_eq_true, implies_true, not_true_eq_false, not_false_eq_true, decide_true, decide_false, Bool.not_true, Bool.not_false]
  refine ⟨fun hpos => ?_, fun hzero => ?_⟩
  · have hcnt := W.cnt
    have hne : queue ≠ [] := by intro e; rw [e] at hpos; simp at hpos
    obtain ⟨init, u, rfl⟩ : ∃ init u, queue = init ++ [u] := ⟨queue.dropLast, queue.getLast hne, (List.dropLast_concat_getLast hne).symm⟩
    have hql : (((init ++ [u]).length : Nat) : Int) - 1 = (init.length : Int) := by simp
    have hw : IntKind.wrap .i64 (((init ++ [u]).length : Int) - 1) = (init.length : Int) := by
      rw [hql, wrap_id (by omega) (by simp at hcnt; omega)]
    have hg : gI (init ++ [u]) (init.length : Int) = some u := by rw [gI_nat]; simp
    have hsl : slI (init ++ [u]) 0 (init.length : Int) = init := by unfold slI; simp
    simp only [hw, ret_eq hg, hsl]
    refine ⟨fun _ => ?_, fun h => absurd h (by simp; omega)⟩
    have hu := W.qs u (by simp)
    obtain ⟨u0, u1, u2⟩ := gI_some hu
    have hdu : Dep s l u := by
      have := W.sound u.toNat u2
      rwa [Int.toNat_of_nonneg u0] at this
    obtain ⟨x, hx, hxl, hxr⟩ := hdu.edge hs hn
    have W1 : Wk s l (· = u) need init := ⟨W.len, W.sound, W.base, fun x hx => W.qs x (List.mem_append_left _ hx), fun v hv hq he t ht => W.closed v hv (fun h => by
      rcases List.mem_append.1 h with h | h
      · exact hq h
      · exact he (List.mem_singleton.1 h)) (fun h => h) t ht, by simp at hcnt; omega⟩
    simp only [ret_eq hx, ret_some, ret_none, ret_bind, ret_map, ret_bif, Sum.elim_inl, Sum.elim_inr, decide_eq_true_eq, decide_eq_false_iff_not, stepQ_inl, stepQ_inr, Bool.not_eq_true', Bool.not_eq_false', beq_iff_eq, bne_iff_ne, ne_eq, beq_eq_false_iff_ne, bne_eq_false_iff_eq, ge_iff_le, gt_iff_lt, Int.not_le, Int.not_lt, reduceCtorEq, false_implies, true_implies, forall_const, and_true, true_and, Bool.true_eq_false, Bool.false_eq_true, implies_true, not_true_eq_false, not_false_eq_true, decide_true, decide_false, Bool.not_true, Bool.not_false]
    refine ⟨fun hwhy => ?_, fun hwhy => ?_⟩
    · refine ⟨⟨need, init, rfl, W1.len, W1.sound, W1.base, W1.qs, fun v hv hq _ t ht => ?_, W1.cnt⟩, ?_⟩
      · by_cases e : (v : Int) = u
        · obtain ⟨x', _, _, _, _, _, hx', h0, _⟩ := ht
          rw [e, hx] at hx'; cases hx'
          exact absurd h0 hwhy
        · exact W1.closed v hv hq e t ht
      · show 2 * falses need + init.length < 2 * falses need + (init ++ [u]).length
        simp
    · obtain ⟨y, hy, hym⟩ := gI_ok hxl.1 hxl.2
      obtain ⟨z, hz, hzm⟩ := gI_ok hxr.1 hxr.2
      simp only [ret_eq hy, ret_eq hz]
      have e28 := F28_eq s u hs (by omega)
      rw [show (s.1, s.2.1, s.2.2.1, s.2.2.2.1, s.2.2.2.2.1, s.2.2.2.2.2.1, s.2.2.2.2.2.2) = s from rfl, e28, ret_some]
      refine loop11_2 hs hn l hx hwhy hy hz hdu (hk y hym) (2 * falses need + (init ++ [u]).length) W1 (by simp) fun n' q' W' hM' => ⟨⟨n', q', rfl, W'⟩, hM'⟩
  · have hnil : queue = [] := List.eq_nil_of_length_eq_zero (by omega)
    subst hnil
    refine Ret.mono (loop11_3 hs W.len) fun out _ ho => ⟨_, ho, fun t ht => ?_⟩
    constructor
    · intro h
      exact W.sound t (by simpa using h)
    · intro h
      have key : ∀ v, Dep s l v → gI need v = some true := by
        intro v hv
        induction hv with
        | base h1 h2 => exact W.base _ h1 h2
        | step h1 h2 ih =>
          obtain ⟨v0, v1, v2⟩ := gI_some ih
          refine W.closed _ v2 (by simp) (fun h => h) _ ?_
          rw [Int.toNat_of_nonneg v0]; exact h2
      have := key _ h
      rw [gI_nat] at this
      simpa using this
end
end Go.Dat
