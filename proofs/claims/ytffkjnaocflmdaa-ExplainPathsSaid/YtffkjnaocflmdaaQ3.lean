/-
  Dependencies: what they are, and the program's way to them.
-/
import Derived.Test.YtffkjnaocflmdaaQ2
namespace Go.Dat
open Go.Eng
set_option linter.unusedSimpArgs false
set_option linter.unusedVariables false

theorem F10_self (a : List Int) (h : a.length ≤ 1000000) : F10 a a = some true := by
  refine Ret.eq ?_
  simp only [F10, bne_self_eq_false, ret_some, ret_none, ret_bind, ret_map, ret_bif, Sum.elim_inl, Sum.elim_inr, decide_eq_true_eq, decide_eq_false_iff_not, stepQ_inl, stepQ_inr, Bool.not_eq_true', Bool.not_eq_false', beq_iff_eq, bne_iff_ne, ne_eq, beq_eq_false_iff_ne, bne_eq_false_iff_eq, ge_iff_le, gt_iff_lt, Int.not_le, Int.not_lt, reduceCtorEq, false_implies, true_implies, forall_const, and_true, true_and, Bool.true_eq_false, Bool.false_eq_true, implies_true, not_true_eq_false, not_false_eq_true, decide_true, decide_false, Bool.not_true, Bool.not_false]
  refine ret_loop (fun i : Int => ∃ n : Nat, i = n ∧ n ≤ a.length) (fun i => a.length - i.toNat) ?_ _ ⟨0, rfl, by omega⟩
  rintro _ ⟨n, rfl, hn⟩
  simp only [L10_1, ret_some, ret_none, ret_bind, ret_map, ret_bif, Sum.elim_inl, Sum.elim_inr, decide_eq_true_eq, decide_eq_false_iff_not, stepQ_inl, stepQ_inr, Bool.not_eq_true', Bool.not_eq_false', beq_iff_eq, bne_iff_ne, ne_eq, beq_eq_false_iff_ne, bne_eq_false_iff_eq, ge_iff_le, gt_iff_lt, Int.not_le, Int.not_lt, reduceCtorEq, false_implies, true_implies, forall_const, and_true, true_and, Bool.true_eq_false, Bool.false_eq_true, implies_true, not_true_eq_false, not_false_eq_true, decide_true, decide_false, Bool.not_true, Bool.not_false]
  refine fun hlt => ret_gI (by omega) hlt fun y hy hm => ?_
  have hw := wrap_succ n (by omega)
  simp only [ret_eq hy, ret_some, ret_none, ret_bind, ret_map, ret_bif, Sum.elim_inl, Sum.elim_inr, decide_eq_true_eq, decide_eq_false_iff_not, stepQ_inl, stepQ_inr, Bool.not_eq_true', Bool.not_eq_false', beq_iff_eq, bne_iff_ne, ne_eq, beq_eq_false_iff_ne, bne_eq_false_iff_eq, ge_iff_le, gt_iff_lt, Int.not_le, Int.not_lt, reduceCtorEq, false_implies, true_implies, forall_const, and_true, true_and, Bool.true_eq_false, Bool.false_eq_true, implies_true, not_true_eq_false, not_false_eq_true, decide_true, decide_false, Bool.not_true, Bool.not_false, hw, bne_self_eq_false]
  exact ⟨⟨n + 1, rfl, by omega⟩, by omega⟩

def EdgeOk (s : SatT) (t : Int) : Prop := ∃ x, gI s.2.1 t = some x ∧ inR s.1.length x.1 ∧ inR s.1.length x.2.1
theorem EdgeOk.lt {s : SatT} {t : Int} (h : EdgeOk s t) : 0 ≤ t ∧ t < s.2.1.length := by
  obtain ⟨x, hx, _⟩ := h
  have := gI_some hx; exact ⟨this.1, this.2.1⟩
/-- step u depends on step t -/
def Succ (s : SatT) (u t : Int) : Prop := ∃ x y z, ∃ (k : Nat) (p q : Int), gI s.2.1 u = some x ∧ x.2.2.1 = 0 ∧ gI s.1 x.1 = some y ∧ gI s.1 x.2.1 = some z ∧ y.2.2[k]? = some p ∧ z.2.2[k]? = some q ∧ t ∈ (pth s p q u).1
inductive Dep (s : SatT) (l : List Int) : Int → Prop
  | base {t : Int} : t ∈ l → EdgeOk s t → Dep s l t
  | step {u t : Int} : Dep s l u → Succ s u t → Dep s l t

theorem pathM_mem {adj : Adj} {D : List Int} {e : Int} : ∀ {m : Nat} {a : Int}, e ∈ pathM adj D m a → ∃ (i : Nat) (j : Int), (j, e) ∈ adj[i]?.getD []
  | 0, _, h => by cases h
  | m + 1, a, h => by
    unfold pathM at h
    split at h
    · rename_i x hx
      rcases List.mem_cons.1 h with rfl | h
      · exact ⟨_, _, List.mem_of_find?_eq_some hx⟩
      · exact pathM_mem h
    · cases h
theorem says_mem {s : SatT} {a b below : Int} {row : List Int} {ok : Bool} (h : PathSays s a b below row ok) {t : Int} (ht : t ∈ row) : EdgeOk s t ∧ t < below := by
  rcases h with ⟨_, rfl, _⟩ | ⟨_, _, D, _, e⟩
  · cases ht
  · unfold shortM at e
    split at e
    · cases e; cases ht
    · cases e
      obtain ⟨i, j, hm⟩ := pathM_mem ht
      rw [grM, mem_edges] at hm
      obtain ⟨q, hq, hqt, x, hx, hl, hr, _⟩ := hm
      dsimp only at hqt
      subst hqt
      exact ⟨⟨x, by rw [gI_nat]; exact hx, hl, hr⟩, by omega⟩
theorem says_no {s : SatT} {a b below : Int} {row : List Int} {ok : Bool} (h : PathSays s a b below row ok) (ho : ok = false) : row = [] := by
  rcases h with ⟨_, rfl, _⟩ | ⟨_, _, D, _, e⟩
  · rfl
  · unfold shortM at e
    split at e
    · cases e; rfl
    · cases e; cases ho
theorem says_len {s : SatT} {a b below : Int} {row : List Int} {ok : Bool} (h : PathSays s a b below row ok) : row.length ≤ s.1.length := by
  by_cases hab : inR s.1.length a ∧ inR s.1.length b
  · exact (PathSays.short h hab.1 hab.2).bd
  · rcases h with ⟨_, rfl, _⟩ | ⟨ha, hb, _⟩
    · simp
    · exact absurd ⟨ha, hb⟩ hab

section
variable {s : SatT} (hs : s.2.1.length ≤ 400000) (hn : s.1.length ≤ 100000)
include hs hn
theorem Succ.edge {u t : Int} (h : Succ s u t) : EdgeOk s t ∧ t < u := by
  obtain ⟨x, y, z, k, p, q, _, _, _, _, _, _, ht⟩ := h
  exact says_mem (pth_says s p q u hs hn) ht
theorem Dep.edge {l : List Int} {t : Int} (h : Dep s l t) : EdgeOk s t := by
  cases h with
  | base _ h => exact h
  | step _ h => exact (Succ.edge hs hn h).1
end

/-! sets of steps -/
def falses : List Bool → Nat
  | [] => 0
  | x :: l => (bif x then 0 else 1) + falses l
theorem falses_set : ∀ (l : List Bool) (i : Nat), l[i]? = some false → falses (l.set i true) + 1 = falses l
  | [], i, h => by simp at h
  | a :: l, 0, h => by
    simp only [List.getElem?_cons_zero, Option.some.injEq] at h
    subst h
    simp only [List.set_cons_zero, falses, cond_true, cond_false]; omega
  | a :: l, i + 1, h => by
    simp only [List.getElem?_cons_succ] at h
    have := falses_set l i h
    simp only [List.set_cons_succ, falses]; omega
theorem falses_rep : ∀ n, falses (List.replicate n false) = n
  | 0 => rfl
  | n + 1 => by rw [List.replicate_succ, falses, falses_rep n]; simp only [cond_false]; omega
def idxs (n : Nat) (p : Nat → Bool) : List Int := ((List.range n).filter p).map fun (i : Nat) => (i : Int)
theorem idxs_succ (n : Nat) (p : Nat → Bool) : idxs (n + 1) p = idxs n p ++ (if p n then [(n : Int)] else []) := by
  unfold idxs
  rw [List.range_succ, List.filter_append, List.map_append]
  congr 1
  cases h : p n <;> simp [h]
theorem idxs_congr {n : Nat} {p q : Nat → Bool} (h : ∀ i, i < n → p i = q i) : idxs n p = idxs n q := by
  unfold idxs
  congr 1
  apply List.filter_congr
  intro i hi
  exact h i (List.mem_range.1 hi)
theorem idxs_len (n : Nat) (p : Nat → Bool) : (idxs n p).length ≤ n := by
  unfold idxs
  rw [List.length_map]
  exact Nat.le_trans (List.length_filter_le _ _) (by simp)
theorem idxs_mem {n : Nat} {p : Nat → Bool} {t : Int} (h : t ∈ idxs n p) : ∃ i : Nat, t = i ∧ i < n ∧ p i = true := by
  unfold idxs at h
  simp only [List.mem_map, List.mem_filter, List.mem_range] at h
  obtain ⟨i, ⟨h1, h2⟩, rfl⟩ := h
  exact ⟨i, rfl, h1, h2⟩

structure AddQ (s : SatT) (l : List Int) (need : List Bool) (queue : List Int) (need' : List Bool) (queue' : List Int) : Prop where
  len : need'.length = need.length
  up : ∀ t : Nat, need[t]? = some true → need'[t]? = some true
  has : ∀ t, t ∈ l → EdgeOk s t → gI need' t = some true
  q : ∃ new : List Int, queue' = queue ++ new ∧ falses need' + new.length = falses need ∧ (∀ x ∈ new, x ∈ l ∧ EdgeOk s x ∧ gI need' x = some true) ∧ ∀ t : Nat, need'[t]? = some true → need[t]? = some true ∨ (t : Int) ∈ new
theorem AddQ.nil {s : SatT} {need : List Bool} {queue : List Int} : AddQ s [] need queue need queue := ⟨rfl, fun _ h => h, fun t h => (by cases h), [], by simp, by simp, fun x h => (by cases h), fun t h => .inl h⟩
theorem AddQ.skip {s : SatT} {l : List Int} {need need' : List Bool} {queue queue' : List Int} (h : AddQ s l need queue need' queue') {y : Int} (hy : EdgeOk s y → gI need' y = some true) : AddQ s (l ++ [y]) need queue need' queue' := by
  obtain ⟨new, h1, h2, h3, h4⟩ := h.q
  refine ⟨h.len, h.up, fun t ht he => ?_, new, h1, h2, fun x hx => ?_, h4⟩
  · rcases List.mem_append.1 ht with ht | ht
    · exact h.has t ht he
    · rw [List.mem_singleton.1 ht] at he ⊢; exact hy he
  · obtain ⟨a, b, c⟩ := h3 x hx
    exact ⟨List.mem_append_left _ a, b, c⟩
theorem AddQ.push {s : SatT} {l : List Int} {need need' : List Bool} {queue queue' : List Int} (h : AddQ s l need queue need' queue') {y : Int} (he : EdgeOk s y) (hy : gI need' y = some false) : AddQ s (l ++ [y]) need queue (setI need' y true) (queue' ++ [y]) := by
  obtain ⟨new, h1, h2, h3, h4⟩ := h.q
  obtain ⟨y0, y1, y2⟩ := gI_some hy
  have self : gI (setI need' y true) y = some true := gI_set true y0 y1
  have up' : ∀ t : Int, gI need' t = some true → gI (setI need' y true) t = some true := fun t ht => by
    by_cases e : y = t
    · subst e; exact self
    · rw [gI_set_ne _ y0 e]; exact ht
  refine ⟨by rw [setI_len]; exact h.len, fun t ht => ?_, fun t ht he' => ?_, new ++ [y], by rw [h1, List.append_assoc], ?_, fun x hx => ?_, fun t ht => ?_⟩
  · have := up' (t : Int) (by rw [gI_nat]; exact h.up t ht)
    rwa [gI_nat] at this
  · rcases List.mem_append.1 ht with ht | ht
    · exact up' t (h.has t ht he')
    · rw [List.mem_singleton.1 ht]; exact self
  · have := falses_set need' y.toNat y2
    simp only [List.length_append, List.length_cons, List.length_nil]
    show falses (need'.set y.toNat true) + _ = _
    omega
  · rcases List.mem_append.1 hx with hx | hx
    · obtain ⟨a, b, c⟩ := h3 x hx
      exact ⟨List.mem_append_left _ a, b, up' x c⟩
    · rw [List.mem_singleton.1 hx]; exact ⟨by simp, he, self⟩
  · by_cases e : y = (t : Int)
    · exact .inr (by rw [← e]; simp)
    · have : gI (setI need' y true) (t : Int) = some true := by rw [gI_nat]; exact ht
      rw [gI_set_ne _ y0 e, gI_nat] at this
      rcases h4 t this with h | h
      · exact .inl h
      · exact .inr (List.mem_append_left _ h)

theorem F33_ok {s : SatT} (l : List Int) (need : List Bool) (queue : List Int) (hl : l.length ≤ 9223372036854775807) (hlen : need.length = s.2.1.length) (hq : queue.length + falses need ≤ 1000000) :
    Ret (F33 l s.1 s.2.1 s.2.2.1 s.2.2.2.1 s.2.2.2.2.1 s.2.2.2.2.2.1 s.2.2.2.2.2.2 need queue) fun r => ∃ need' queue', r = (s.1, s.2.1, s.2.2.1, s.2.2.2.1, s.2.2.2.2.1, s.2.2.2.2.2.1, s.2.2.2.2.2.2, need', queue') ∧ AddQ s l need queue need' queue' := by
  unfold F33
  refine ret_loop (fun q => ∃ i : Nat, i ≤ l.length ∧ ∃ need' queue', q = ((i : Int), s.1, s.2.1, s.2.2.1, s.2.2.2.1, s.2.2.2.2.1, s.2.2.2.2.2.1, s.2.2.2.2.2.2, need', queue') ∧ AddQ s (l.take i) need queue need' queue') (fun q => l.length - q.1.toNat) ?_ _ ⟨0, by omega, need, queue, rfl, AddQ.nil⟩
  rintro _ ⟨i, hi, n', q', rfl, h⟩
  simp only [L33_1, ret_some, ret_none, ret_bind, ret_map, ret_bif, Sum.elim_inl, Sum.elim_inr, decide_eq_true_eq, decide_eq_false_iff_not, stepQ_inl, stepQ_inr, Bool.not_eq_true', Bool.not_eq_false', beq_iff_eq, bne_iff_ne, ne_eq, beq_eq_false_iff_ne, bne_eq_false_iff_eq, ge_iff_le, gt_iff_lt, Int.not_le, Int.not_lt, reduceCtorEq, false_implies, true_implies, forall_const, and_true, true_and, Bool.true_eq_false, Bool.false_eq_true, implies_true, not_true_eq_false, not_false_eq_true, decide_true, decide_false, Bool.not_true, Bool.not_false]
  refine ⟨fun hlt => ret_gI (by omega) hlt fun y hy _ => ?_, fun hge => ?_⟩
  · rw [gI_nat] at hy
    have hw := wrap_succ i (by omega)
    have htake : l.take (i + 1) = l.take i ++ [y] := by rw [List.take_add_one, hy]; rfl
    have hl' := h.len
    have step : ∀ n2 q2, AddQ s (l.take i ++ [y]) need queue n2 q2 → (∃ j : Nat, j ≤ l.length ∧ ∃ need' queue', (((i + 1 : Nat) : Int), s.1, s.2.1, s.2.2.1, s.2.2.2.1, s.2.2.2.2.1, s.2.2.2.2.2.1, s.2.2.2.2.2.2, n2, q2) = ((j : Int), s.1, s.2.1, s.2.2.1, s.2.2.2.1, s.2.2.2.2.1, s.2.2.2.2.2.1, s.2.2.2.2.2.2, need', queue') ∧ AddQ s (l.take j) need queue need' queue') ∧ l.length - (((i + 1 : Nat) : Int)).toNat < l.length - ((i : Int)).toNat := fun n2 q2 hA => ⟨⟨i + 1, by omega, n2, q2, rfl, by rw [htake]; exact hA⟩, by omega⟩
    have skip : (EdgeOk s y → gI n' y = some true) → Ret (J33_1 (i : Int) (s.1, s.2.1, s.2.2.1, s.2.2.2.1, s.2.2.2.2.1, s.2.2.2.2.2.1, s.2.2.2.2.2.2, n', q')) (StepQ (fun q => ∃ i : Nat, i ≤ l.length ∧ ∃ need' queue', q = ((i : Int), s.1, s.2.1, s.2.2.1, s.2.2.2.1, s.2.2.2.2.1, s.2.2.2.2.2.1, s.2.2.2.2.2.2, need', queue') ∧ AddQ s (l.take i) need queue need' queue') (fun q => l.length - q.1.toNat) (fun r => ∃ need' queue', r = (s.1, s.2.1, s.2.2.1, s.2.2.2.1, s.2.2.2.2.1, s.2.2.2.2.2.1, s.2.2.2.2.2.2, need', queue') ∧ AddQ s l need queue need' queue') ((i : Int), s.1, s.2.1, s.2.2.1, s.2.2.2.1, s.2.2.2.2.1, s.2.2.2.2.2.1, s.2.2.2.2.2.2, n', q')) := fun hsk => by
      simp only [J33_1, ret_some, stepQ_inl, hw]
      exact step n' q' (h.skip hsk)
    simp only [J33_2, ret_some, ret_none, ret_bind, ret_map, ret_bif, Sum.elim_inl, Sum.elim_inr, decide_eq_true_eq, decide_eq_false_iff_not, stepQ_inl, stepQ_inr, Bool.not_eq_true', Bool.not_eq_false', beq_iff_eq, bne_iff_ne, ne_eq, beq_eq_false_iff_ne, bne_eq_false_iff_eq, ge_iff_le, gt_iff_lt, Int.not_le, Int.not_lt, reduceCtorEq, false_implies, true_implies, forall_const, and_true, true_and, Bool.true_eq_false, Bool.false_eq_true, implies_true, not_true_eq_false, not_false_eq_true, decide_true, decide_false, Bool.not_true, Bool.not_false]
    refine ⟨fun h0 => skip (fun he => by have := he.lt; omega), fun h0 => ⟨fun h1 => skip (fun he => by have := he.lt; omega), fun h1 => ?_⟩⟩
    refine ret_gI h0 (by omega) fun b hb _ => ?_
    simp only [ret_eq hb, F26_eq, ret_some, ret_none, ret_bind, ret_map, ret_bif, Sum.elim_inl, Sum.elim_inr, decide_eq_true_eq, decide_eq_false_iff_not, stepQ_inl, stepQ_inr, Bool.not_eq_true', Bool.not_eq_false', beq_iff_eq, bne_iff_ne, ne_eq, beq_eq_false_iff_ne, bne_eq_false_iff_eq, ge_iff_le, gt_iff_lt, Int.not_le, Int.not_lt, reduceCtorEq, false_implies, true_implies, forall_const, and_true, true_and, Bool.true_eq_false, Bool.false_eq_true, implies_true, not_true_eq_false, not_false_eq_true, decide_true, decide_false, Bool.not_true, Bool.not_false]
    refine ⟨fun hbt => skip (fun _ => by rw [hb, hbt]), fun hbf => ?_⟩
    subst hbf
    refine ret_gI h0 h1 fun x hx _ => ?_
    refine ⟨fun hno => skip (fun he => ?_), fun hyes => ?_⟩
    · obtain ⟨x', hx', h3, _⟩ := he
      rw [hx] at hx'; cases hx'
      exact absurd h3 hno
    · simp only [ret_eq hx, ret_some, ret_none, ret_bind, ret_map, ret_bif, Sum.elim_inl, Sum.elim_inr, decide_eq_true_eq, decide_eq_false_iff_not, stepQ_inl, stepQ_inr, Bool.not_eq_true', Bool.not_eq_false', beq_iff_eq, bne_iff_ne, ne_eq, beq_eq_false_iff_ne, bne_eq_false_iff_eq, ge_iff_le, gt_iff_lt, Int.not_le, Int.not_lt, reduceCtorEq, false_implies, true_implies, forall_const, and_true, true_and, Bool.true_eq_false, Bool.false_eq_true, implies_true, not_true_eq_false, not_false_eq_true, decide_true, decide_false, Bool.not_true, Bool.not_false]
      by_cases hR : inR s.1.length x.2.1
      · simp only [hR, ret_some, ret_none, ret_bind, ret_map, ret_bif, Sum.elim_inl, Sum.elim_inr, decide_eq_true_eq, decide_eq_false_iff_not, stepQ_inl, stepQ_inr, Bool.not_eq_true', Bool.not_eq_false', beq_iff_eq, bne_iff_ne, ne_eq, beq_eq_false_iff_ne, bne_eq_false_iff_eq, ge_iff_le, gt_iff_lt, Int.not_le, Int.not_lt, reduceCtorEq, false_implies, true_implies, forall_const, and_true, true_and, Bool.true_eq_false, Bool.false_eq_true, implies_true, not_true_eq_false, not_false_eq_true, decide_true, decide_false, Bool.not_true, Bool.not_false]
        obtain ⟨new, e1, e2, _⟩ := h.q
        have e3 : q'.length = queue.length + new.length := by rw [e1]; simp
        have e4 := falses_set n' y.toNat (gI_some hb).2.2
        refine ⟨fun _ => ?_, fun h => absurd h (by simp only [List.length_cons, List.length_nil]; omega)⟩
        simp only [J33_1, ret_some, stepQ_inl, hw]
        exact step _ _ (h.push ⟨x, hx, hyes, hR⟩ hb)
      · simp only [hR, ret_some, ret_none, ret_bind, ret_map, ret_bif, Sum.elim_inl, Sum.elim_inr, decide_eq_true_eq, decide_eq_false_iff_not, stepQ_inl, stepQ_inr, Bool.not_eq_true', Bool.not_eq_false', beq_iff_eq, bne_iff_ne, ne_eq, beq_eq_false_iff_ne, bne_eq_false_iff_eq, ge_iff_le, gt_iff_lt, Int.not_le, Int.not_lt, reduceCtorEq, false_implies, true_implies, forall_const, and_true, true_and, Bool.true_eq_false, Bool.false_eq_true, implies_true, not_true_eq_false, not_false_eq_true, decide_true, decide_false, Bool.not_true, Bool.not_false]
        refine skip (fun he => ?_)
        obtain ⟨x', hx', _, h3⟩ := he
        rw [hx] at hx'; cases hx'
        exact absurd h3 hR
  · have : i = l.length := by omega
    subst this
    rw [List.take_length] at h
    exact ⟨n', q', rfl, h⟩
end Go.Dat
