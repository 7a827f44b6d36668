/-
  The reference's distances and paths.
-/
import Derived.Test.YtffkjnaocflmdaaP6
namespace Go.Dat
open Go.Eng
set_option linter.unusedSimpArgs false
set_option linter.unusedVariables false

theorem Dist.uniq {adj : Adj} {b : Nat} {D D' : List Int} (h : Dist adj b D) (h' : Dist adj b D') : D = D' := by
  apply List.ext_getElem?
  intro i
  by_cases hi : i < adj.length
  · have e1 : D[i]? = some (D[i]'(by rw [h.len]; exact hi)) := List.getElem?_eq_getElem _
    have e2 : D'[i]? = some (D'[i]'(by rw [h'.len]; exact hi)) := List.getElem?_eq_getElem _
    generalize D[i]'(by rw [h.len]; exact hi) = x at e1
    generalize D'[i]'(by rw [h'.len]; exact hi) = y at e2
    have l1 := h.lo i x e1
    have l2 := h'.lo i y e2
    rw [e1, e2]
    by_cases hx : 0 ≤ x
    · obtain ⟨d, rfl⟩ : ∃ d : Nat, x = d := ⟨x.toNat, by omega⟩
      obtain ⟨d', hd', hle⟩ := h'.all d i (h.wk i d e1)
      rw [e2] at hd'; have hy := Option.some.inj hd'; subst hy
      obtain ⟨d2, hd2, hle2⟩ := h.all d' i (h'.wk i d' e2)
      rw [e1] at hd2; have := Option.some.inj hd2
      congr 1; omega
    · by_cases hy : 0 ≤ y
      · obtain ⟨d', rfl⟩ : ∃ d : Nat, y = d := ⟨y.toNat, by omega⟩
        obtain ⟨d2, hd2, hle2⟩ := h.all d' i (h'.wk i d' e2)
        rw [e1] at hd2; have := Option.some.inj hd2; omega
      · congr 1; omega
  · rw [List.getElem?_eq_none (by rw [h.len]; omega), List.getElem?_eq_none (by rw [h'.len]; omega)]
theorem PathSays.uniq {s : SatT} {a b below : Int} {r r' : List Int} {k k' : Bool} (h : PathSays s a b below r k) (h' : PathSays s a b below r' k') : r = r' ∧ k = k' := by
  rcases h with ⟨n, rfl, rfl⟩ | ⟨ha, hb, D, hD, e⟩
  · rcases h' with ⟨_, rfl, rfl⟩ | ⟨ha, hb, _⟩
    · exact ⟨rfl, rfl⟩
    · exact absurd ⟨ha, hb⟩ n
  · rcases h' with ⟨n, _⟩ | ⟨_, _, D', hD', e'⟩
    · exact absurd ⟨ha, hb⟩ n
    · have := hD.uniq hD'
      subst this
      rw [← e'] at e
      exact ⟨congrArg Prod.fst e, congrArg Prod.snd e⟩

theorem F39_eq (l : List NodeT) (i : Int) : F39 l i = some (decide (inR l.length i)) := by
  refine Ret.eq ?_
  simp only [F39, J39_1, ret_some, ret_none, ret_bind, ret_map, ret_bif, Sum.elim_inl, Sum.elim_inr, decide_eq_true_eq, decide_eq_false_iff_not, stepQ_inl, stepQ_inr, Bool.not_eq_true', Bool.not_eq_false', beq_iff_eq, bne_iff_ne, ne_eq, beq_eq_false_iff_ne, bne_eq_false_iff_eq, ge_iff_le, gt_iff_lt, Int.not_le, Int.not_lt, reduceCtorEq, false_implies, true_implies, forall_const, and_true, true_and, Bool.true_eq_false, Bool.false_eq_true, implies_true, not_true_eq_false, not_false_eq_true, decide_true, decide_false, Bool.not_true, Bool.not_false, inR]
  refine ⟨fun h => by simp [h], fun h => ?_⟩
  have : ¬ (0 ≤ i ∧ i < l.length) := by omega
  simp [this]
theorem F41_eq (l : List NodeT) (x : StepT) : F41 l x = some (decide (inR l.length x.1 ∧ inR l.length x.2.1)) := by
  refine Ret.eq ?_
  simp only [F41, J41_1, F39_eq, ret_some, ret_none, ret_bind, ret_map, ret_bif, Sum.elim_inl, Sum.elim_inr, decide_eq_true_eq, decide_eq_false_iff_not, stepQ_inl, stepQ_inr, Bool.not_eq_true', Bool.not_eq_false', beq_iff_eq, bne_iff_ne, ne_eq, beq_eq_false_iff_ne, bne_eq_false_iff_eq, ge_iff_le, gt_iff_lt, Int.not_le, Int.not_lt, reduceCtorEq, false_implies, true_implies, forall_const, and_true, true_and, Bool.true_eq_false, Bool.false_eq_true, implies_true, not_true_eq_false, not_false_eq_true, decide_true, decide_false, Bool.not_true, Bool.not_false]
  refine ⟨fun h => by simp [h], fun h => by simp [h]⟩

/-! one round -/
structure Rd (adj : Adj) (b n : Nat) (D0 d : List Int) (more : Bool) : Prop where
  len : d.length = D0.length
  old : ∀ (i : Nat) (x : Int), D0[i]? = some x → 0 ≤ x → d[i]? = some x
  new : ∀ (i : Nat) (x : Int), d[i]? = some x → D0[i]? = some x ∨ (x = ((n + 1 : Nat) : Int) ∧ W adj b (n + 1) i ∧ ∃ y, D0[i]? = some y ∧ y < 0)
  yes : more = true → negs d < negs D0
  no : more = false → d = D0
theorem Rd.start (adj : Adj) (b n : Nat) (D0 : List Int) : Rd adj b n D0 D0 false := ⟨rfl, fun _ _ h _ => h, fun _ _ h => .inl h, fun h => (by cases h), fun _ => rfl⟩
theorem Rd.negs {adj : Adj} {b n : Nat} {D0 d : List Int} {more : Bool} (h : Rd adj b n D0 d more) : negs d ≤ negs D0 := by
  cases more with
  | true => have := h.yes rfl; omega
  | false => rw [h.no rfl]; exact Nat.le_refl _
theorem Rd.half {adj : Adj} {b n : Nat} {D0 d : List Int} {more : Bool} (h : Rd adj b n D0 d more) {j i : Nat} (hj : D0[j]? = some (n : Int)) (hw : W adj b n j) (hl : Lk adj j i) {y : Int} (hi : d[i]? = some y) (hy : y < 0) : Rd adj b n D0 (d.set i ((n + 1 : Nat) : Int)) true := by
  have hil := (List.getElem?_eq_some_iff.1 hi).1
  have hn := negs_set d i y ((n + 1 : Nat) : Int) hi hy (by omega)
  have := h.negs
  refine ⟨by rw [List.length_set]; exact h.len, fun m x hm hx => ?_, fun m x hm => ?_, fun _ => by omega, fun h => (by cases h)⟩
  · by_cases e : i = m
    · subst e
      have := h.old i x hm hx
      rw [hi] at this; cases this; omega
    · rw [List.getElem?_set_ne e]; exact h.old m x hm hx
  · by_cases e : i = m
    · subst e
      rw [List.getElem?_set_self hil] at hm
      cases hm
      refine .inr ⟨rfl, ⟨j, hw, hl⟩, y, ?_, hy⟩
      rcases h.new i y hi with h1 | ⟨h1, _⟩
      · exact h1
      · omega
    · rw [List.getElem?_set_ne e] at hm; exact h.new m x hm
def Seen (N : Nat) (l : List StepT) (n : Nat) (D0 d : List Int) (t : Nat) : Prop := ∀ q, q < t → ∀ j i : Nat, Joins N l q (j : Int) (i : Int) → D0[j]? = some (n : Int) → ∃ x, d[i]? = some x ∧ 0 ≤ x
theorem lk_of {N : Nat} {l : List StepT} {k q : Nat} {j i : Nat} (hq : q < k) (h : Joins N l q (j : Int) (i : Int)) : Lk (edgesM N l k) j i := ⟨(q : Int), by rw [mem_edges]; exact ⟨q, hq, rfl, h⟩⟩
theorem of_lk {N : Nat} {l : List StepT} {k j i : Nat} (h : Lk (edgesM N l k) j i) : ∃ q, q < k ∧ Joins N l q (j : Int) (i : Int) := by
  obtain ⟨t, ht⟩ := h
  rw [mem_edges] at ht
  obtain ⟨q, hq, _, hj⟩ := ht
  exact ⟨q, hq, hj⟩

/-- what holds between the rounds -/
structure Rn (adj : Adj) (b n : Nat) (more : Bool) (d : List Int) : Prop where
  len : d.length = adj.length
  lo : ∀ (i : Nat) (x : Int), d[i]? = some x → -1 ≤ x ∧ x ≤ n
  wk : ∀ (i m : Nat), d[i]? = some (m : Int) → W adj b m i
  all : ∀ (m i : Nat), m ≤ n → W adj b m i → ∃ e : Nat, d[i]? = some (e : Int) ∧ e ≤ m
  b0 : d[b]? = some ((0 : Nat) : Int)
  top : more = false → ∀ (i : Nat), d[i]? ≠ some (n : Int)
  cnt : more = true → n + negs d < adj.length
  cnt2 : n + negs d ≤ adj.length
theorem Rn.dist {adj : Adj} {b n : Nat} {d : List Int} (h : Rn adj b n false d) (hn : n ≤ adj.length) : Dist adj b d := by
  refine ⟨h.len, fun i x hi => ?_, h.wk, ?_, h.b0⟩
  · have := h.lo i x hi; omega
  · intro m
    induction m with
    | zero => intro i hw; exact h.all 0 i (by omega) hw
    | succ m ih =>
      rintro i ⟨j, hj, hl⟩
      obtain ⟨e, he, hle⟩ := ih j hj
      have h1 := h.lo j _ he
      have h2 := h.top rfl j
      have h3 : e ≠ n := fun hh => h2 (by rw [← hh]; exact he)
      obtain ⟨e2, he2, hle2⟩ := h.all (e + 1) i (by omega) ⟨j, h.wk j e he, hl⟩
      exact ⟨e2, he2, by omega⟩
theorem Rn.next {N : Nat} {l : List StepT} {k b n : Nat} {more : Bool} {D0 d : List Int} (h : Rn (edgesM N l k) b n true D0) (r : Rd (edgesM N l k) b n D0 d more) (hs : Seen N l n D0 d k) : Rn (edgesM N l k) b (n + 1) more d := by
  have hneg := r.negs
  have hc := h.cnt rfl
  refine ⟨by rw [r.len, h.len], fun i x hi => ?_, fun i m hi => ?_, fun m i hm hw => ?_, r.old b _ h.b0 (by omega), fun hf i hi => ?_, fun ht => ?_, by omega⟩
  · rcases r.new i x hi with h1 | ⟨h1, _⟩
    · have := h.lo i x h1; omega
    · omega
  · rcases r.new i _ hi with h1 | ⟨h1, h2, _⟩
    · exact h.wk i m h1
    · have : m = n + 1 := by omega
      rw [this]; exact h2
  · by_cases hmn : m ≤ n
    · obtain ⟨e, he, hle⟩ := h.all m i hmn hw
      exact ⟨e, r.old i _ he (by omega), hle⟩
    · have : m = n + 1 := by omega
      subst this
      obtain ⟨j, hj, hl⟩ := hw
      obtain ⟨e, he, hle⟩ := h.all n j (by omega) hj
      by_cases hen : e < n
      · obtain ⟨e2, he2, hle2⟩ := h.all (e + 1) i (by omega) ⟨j, h.wk j e he, hl⟩
        exact ⟨e2, r.old i _ he2 (by omega), by omega⟩
      · have : e = n := by omega
        subst this
        obtain ⟨q, hq, hjn⟩ := of_lk hl
        obtain ⟨x, hx, hx0⟩ := hs q hq j i hjn he
        rcases r.new i x hx with h1 | ⟨h1, _⟩
        · have := h.lo i x h1
          exact ⟨x.toNat, by rw [hx]; congr 1; omega, by omega⟩
        · exact ⟨e + 1, by rw [hx, h1], by omega⟩
  · rw [r.no hf] at hi
    have := h.lo i _ hi; omega
  · have := r.yes ht; omega

section
variable {s : SatT} {below : Int}
/-- a round goes over the steps -/
theorem loop40_3 (hs : s.2.1.length ≤ 400000) (hn : s.1.length ≤ 100000) {b n : Nat} {D0 : List Int} (h : Rn (grM s below) b n true D0) {Q : (Int × Bool × List Int) ⊕ (List Int) → Prop}
    (hQ : ∀ more d, Rn (grM s below) b (n + 1) more d → (more = true → negs d < negs D0) → negs d ≤ negs D0 → Q (.inl (((n + 1 : Nat) : Int), more, d))) : Ret (loopL (L40_3 s below (n : Int)) (false, 0, D0)) Q := by
  have hgl : (grM s below).length = s.1.length := edgesM_len _ _ _
  have hc2 := h.cnt2
  have hw := wrap_succ n (by omega)
  refine ret_loop (fun q : Bool × Int × List Int => ∃ t : Nat, q.2.1 = t ∧ t ≤ min s.2.1.length below.toNat ∧ Rd (grM s below) b n D0 q.2.2 q.1 ∧ Seen s.1.length s.2.1 n D0 q.2.2 t) (fun q => s.2.1.length - q.2.1.toNat) ?_ _ ⟨0, rfl, by omega, Rd.start _ _ _ _, fun q hq => by omega⟩
  rintro ⟨more, t', d⟩ ⟨t, e, ht, r, hsn⟩
  dsimp only at e r hsn
  subst e
  have stop : t = min s.2.1.length below.toNat → Ret (J40_1 s (n : Int) more (t : Int) (false, d)) (StepQ (fun q : Bool × Int × List Int => ∃ t : Nat, q.2.1 = t ∧ t ≤ min s.2.1.length below.toNat ∧ Rd (grM s below) b n D0 q.2.2 q.1 ∧ Seen s.1.length s.2.1 n D0 q.2.2 t) (fun q => s.2.1.length - q.2.1.toNat) Q (more, (t : Int), d)) := fun hk => by
    simp only [J40_1, ret_some, ret_none, ret_bind, ret_map, ret_bif, Sum.elim_inl, Sum.elim_inr, decide_eq_true_eq, decide_eq_false_iff_not, stepQ_inl, stepQ_inr, Bool.not_eq_true', Bool.not_eq_false', beq_iff_eq, bne_iff_ne, ne_eq, beq_eq_false_iff_ne, bne_eq_false_iff_eq, ge_iff_le, gt_iff_lt, Int.not_le, Int.not_lt, reduceCtorEq, false_implies, true_implies, forall_const, and_true, true_and, Bool.true_eq_false, Bool.false_eq_true, implies_true, not_true_eq_false, not_false_eq_true, decide_true, decide_false, Bool.not_true, Bool.not_false, hw]
    exact hQ more d (h.next r (by rw [← hk]; exact hsn)) r.yes r.negs
  simp only [L40_3, ret_some, ret_none, ret_bind, ret_map, ret_bif, Sum.elim_inl, Sum.elim_inr, decide_eq_true_eq, decide_eq_false_iff_not, stepQ_inl, stepQ_inr, Bool.not_eq_true', Bool.not_eq_false', beq_iff_eq, bne_iff_ne, ne_eq, beq_eq_false_iff_ne, bne_eq_false_iff_eq, ge_iff_le, gt_iff_lt, Int.not_le, Int.not_lt, reduceCtorEq, false_implies, true_implies, forall_const, and_true, true_and, Bool.true_eq_false, Bool.false_eq_true, implies_true, not_true_eq_false, not_false_eq_true, decide_true, decide_false, Bool.not_true, Bool.not_false]
  refine ⟨fun hlt => ?_, fun hge => stop (by omega)⟩
  by_cases hb : t < min s.2.1.length below.toNat
  · rw [show decide ((t : Int) < below) = true by simp; omega]
    have htl : t < s.2.1.length := by omega
    have hx : s.2.1[t]? = some s.2.1[t] := List.getElem?_eq_getElem htl
    have hg : gI s.2.1 (t : Int) = some s.2.1[t] := by rw [gI_nat, hx]
    generalize s.2.1[t] = x at hx hg
    have hwt := wrap_succ t (by omega)
    simp only [J40_1, ret_some, ret_none, ret_bind, ret_map, ret_bif, Sum.elim_inl, Sum.elim_inr, decide_eq_true_eq, decide_eq_false_iff_not, stepQ_inl, stepQ_inr, Bool.not_eq_true', Bool.not_eq_false', beq_iff_eq, bne_iff_ne, ne_eq, beq_eq_false_iff_ne, bne_eq_false_iff_eq, ge_iff_le, gt_iff_lt, Int.not_le, Int.not_lt, reduceCtorEq, false_implies, true_implies, forall_const, and_true, true_and, Bool.true_eq_false, Bool.false_eq_true, implies_true, not_true_eq_false, not_false_eq_true, decide_true, decide_false, Bool.not_true, Bool.not_false, ret_eq hg, F41_eq]
    have done : ∀ more' d', Rd (grM s below) b n D0 d' more' → Seen s.1.length s.2.1 n D0 d' (t + 1) → Ret (J40_2 (t : Int) (more', d')) (StepQ (fun q : Bool × Int × List Int => ∃ t : Nat, q.2.1 = t ∧ t ≤ min s.2.1.length below.toNat ∧ Rd (grM s below) b n D0 q.2.2 q.1 ∧ Seen s.1.length s.2.1 n D0 q.2.2 t) (fun q => s.2.1.length - q.2.1.toNat) Q (more, (t : Int), d)) := fun more' d' r' hs' => by
      simp only [J40_2, ret_some, ret_none, ret_bind, ret_map, ret_bif, Sum.elim_inl, Sum.elim_inr, decide_eq_true_eq, decide_eq_false_iff_not, stepQ_inl, stepQ_inr, Bool.not_eq_true', Bool.not_eq_false', beq_iff_eq, bne_iff_ne, ne_eq, beq_eq_false_iff_ne, bne_eq_false_iff_eq, ge_iff_le, gt_iff_lt, Int.not_le, Int.not_lt, reduceCtorEq, false_implies, true_implies, forall_const, and_true, true_and, Bool.true_eq_false, Bool.false_eq_true, implies_true, not_true_eq_false, not_false_eq_true, decide_true, decide_false, Bool.not_true, Bool.not_false, hwt]
      exact ⟨⟨t + 1, rfl, by omega, r', hs'⟩, by omega⟩
    refine ⟨fun hno => done _ _ r ?_, fun hyes => ?_⟩
    · intro q hq j i hjn hj
      by_cases e : q < t
      · exact hsn q e j i hjn hj
      · have : q = t := by omega
        subst this
        obtain ⟨y, hy, h1, h2, _⟩ := hjn
        rw [hx] at hy; cases hy
        exact absurd ⟨h1, h2⟩ hno
    · obtain ⟨hL, hR⟩ := hyes
      obtain ⟨L, hLe⟩ : ∃ L : Nat, x.1 = (L : Int) := ⟨x.1.toNat, by have := hL.1; omega⟩
      obtain ⟨R, hRe⟩ : ∃ R : Nat, x.2.1 = (R : Int) := ⟨x.2.1.toNat, by have := hR.1; omega⟩
      have hLl : L < s.1.length := by have := hL.2; omega
      have hRl : R < s.1.length := by have := hR.2; omega
      have dl : ∀ {d' : List Int} {m : Bool}, Rd (grM s below) b n D0 d' m → d'.length = s.1.length := fun r => by rw [r.len, h.len, hgl]
      have jLR : Joins s.1.length s.2.1 t (L : Int) (R : Int) := ⟨x, hx, hL, hR, .inl ⟨hLe, hRe⟩⟩
      have jRL : Joins s.1.length s.2.1 t (R : Int) (L : Int) := ⟨x, hx, hL, hR, .inr ⟨hRe, hLe⟩⟩
      have isn : ∀ {d' : List Int} {m : Bool} (r' : Rd (grM s below) b n D0 d' m) {j : Nat}, d'[j]? = some (n : Int) → D0[j]? = some (n : Int) := fun {d'} {m} r' {j} hj => by
        rcases r'.new j _ hj with h1 | ⟨h1, _⟩
        · exact h1
        · omega
      have sset : ∀ {d' : List Int} (i : Nat) (v : Int), 0 ≤ v → (∃ y, d'[i]? = some y) → ∀ {i' : Nat}, (∃ x, d'[i']? = some x ∧ 0 ≤ x) → ∃ x, (d'.set i v)[i']? = some x ∧ 0 ≤ x := fun {d'} i v hv ⟨y, hy⟩ {i'} ⟨z, hz, hz0⟩ => by
        by_cases e : i = i'
        · subst e; exact ⟨v, List.getElem?_set_self (List.getElem?_eq_some_iff.1 hy).1, hv⟩
        · rw [List.getElem?_set_ne e]; exact ⟨z, hz, hz0⟩
      -- the second half
      have second : ∀ (more' : Bool) (d' : List Int), Rd (grM s below) b n D0 d' more' → Seen s.1.length s.2.1 n D0 d' t → (D0[L]? = some (n : Int) → ∃ z, d'[R]? = some z ∧ 0 ≤ z) → Ret (J40_3 (n : Int) x (more', d')) fun a => Ret (Sum.elim (J40_2 (t : Int)) some a) (StepQ (fun q : Bool × Int × List Int => ∃ t : Nat, q.2.1 = t ∧ t ≤ min s.2.1.length below.toNat ∧ Rd (grM s below) b n D0 q.2.2 q.1 ∧ Seen s.1.length s.2.1 n D0 q.2.2 t) (fun q => s.2.1.length - q.2.1.toNat) Q (more, (t : Int), d)) := by
        intro more' d' r' hs' hf
        have hd' := dl r'
        have hR' : d'[R]? = some (d'[R]'(by omega)) := List.getElem?_eq_getElem _
        have hL' : d'[L]? = some (d'[L]'(by omega)) := List.getElem?_eq_getElem _
        generalize d'[R]'(by omega) = vR at hR'
        generalize d'[L]'(by omega) = vL at hL'
        have fin : ∀ (m : Bool) (d2 : List Int), Rd (grM s below) b n D0 d2 m → (∀ i : Nat, (∃ z, d'[i]? = some z ∧ 0 ≤ z) → ∃ z, d2[i]? = some z ∧ 0 ≤ z) → (D0[R]? = some (n : Int) → ∃ z, d2[L]? = some z ∧ 0 ≤ z) → Ret (J40_2 (t : Int) (m, d2)) (StepQ (fun q : Bool × Int × List Int => ∃ t : Nat, q.2.1 = t ∧ t ≤ min s.2.1.length below.toNat ∧ Rd (grM s below) b n D0 q.2.2 q.1 ∧ Seen s.1.length s.2.1 n D0 q.2.2 t) (fun q => s.2.1.length - q.2.1.toNat) Q (more, (t : Int), d)) := by
          intro m d2 r2 up hg2
          refine done m d2 r2 ?_
          intro q hq j i hjn hj
          by_cases e : q < t
          · exact up i (hs' q e j i hjn hj)
          · have : q = t := by omega
            subst this
            obtain ⟨y, hy, _, _, hor⟩ := hjn
            rw [hx] at hy; cases hy
            rcases hor with ⟨h1, h2⟩ | ⟨h1, h2⟩
            · have e1 : j = L := by omega
              have e2 : i = R := by omega
              subst e1 e2
              exact up _ (hf hj)
            · have e1 : j = R := by omega
              have e2 : i = L := by omega
              subst e1 e2
              exact hg2 hj
        simp only [J40_3, ret_some, ret_none, ret_bind, ret_map, ret_bif, Sum.elim_inl, Sum.elim_inr, decide_eq_true_eq, decide_eq_false_iff_not, stepQ_inl, stepQ_inr, Bool.not_eq_true', Bool.not_eq_false', beq_iff_eq, bne_iff_ne, ne_eq, beq_eq_false_iff_ne, bne_eq_false_iff_eq, ge_iff_le, gt_iff_lt, Int.not_le, Int.not_lt, reduceCtorEq, false_implies, true_implies, forall_const, and_true, true_and, Bool.true_eq_false, Bool.false_eq_true, implies_true, not_true_eq_false, not_false_eq_true, decide_true, decide_false, Bool.not_true, Bool.not_false, hRe, hLe, ret_eq (gI_D hR'), ret_eq (gI_D hL'), hw]
        refine ⟨fun hv => ?_, fun hv => ?_⟩
        · subst hv
          by_cases hneg : vL < 0
          · simp only [J40_5, hneg, ret_some, ret_none, ret_bind, ret_map, ret_bif, Sum.elim_inl, Sum.elim_inr, decide_eq_true_eq, decide_eq_false_iff_not, stepQ_inl, stepQ_inr, Bool.not_eq_true', Bool.not_eq_false', beq_iff_eq, bne_iff_ne, ne_eq, beq_eq_false_iff_ne, bne_eq_false_iff_eq, ge_iff_le, gt_iff_lt, Int.not_le, Int.not_lt, reduceCtorEq, false_implies, true_implies, forall_const, and_true, true_and, Bool.true_eq_false, Bool.false_eq_true, implies_true, not_true_eq_false, not_false_eq_true, decide_true, decide_false, Bool.not_true, Bool.not_false, hLe, ret_eq (gI_D hL'), hw, setI_nat]
            refine fin _ _ (r'.half (isn r' hR') (h.wk R n (isn r' hR')) (lk_of (show t < _ from hb) jRL) hL' hneg) (fun i hi => sset L _ (by omega) ⟨_, hL'⟩ hi) (fun _ => ⟨_, List.getElem?_set_self (by omega), by omega⟩)
          · simp only [J40_5, hneg, ret_some, ret_none, ret_bind, ret_map, ret_bif, Sum.elim_inl, Sum.elim_inr, decide_eq_true_eq, decide_eq_false_iff_not, stepQ_inl, stepQ_inr, Bool.not_eq_true', Bool.not_eq_false', beq_iff_eq, bne_iff_ne, ne_eq, beq_eq_false_iff_ne, bne_eq_false_iff_eq, ge_iff_le, gt_iff_lt, Int.not_le, Int.not_lt, reduceCtorEq, false_implies, true_implies, forall_const, and_true, true_and, Bool.true_eq_false, Bool.false_eq_true, implies_true, not_true_eq_false, not_false_eq_true, decide_true, decide_false, Bool.not_true, Bool.not_false]
            exact fin _ _ r' (fun i hi => hi) (fun _ => ⟨vL, hL', by omega⟩)
        · simp only [J40_5, ret_some, ret_none, ret_bind, ret_map, ret_bif, Sum.elim_inl, Sum.elim_inr, decide_eq_true_eq, decide_eq_false_iff_not, stepQ_inl, stepQ_inr, Bool.not_eq_true', Bool.not_eq_false', beq_iff_eq, bne_iff_ne, ne_eq, beq_eq_false_iff_ne, bne_eq_false_iff_eq, ge_iff_le, gt_iff_lt, Int.not_le, Int.not_lt, reduceCtorEq, false_implies, true_implies, forall_const, and_true, true_and, Bool.true_eq_false, Bool.false_eq_true, implies_true, not_true_eq_false, not_false_eq_true, decide_true, decide_false, Bool.not_true, Bool.not_false]
          refine fin _ _ r' (fun i hi => hi) (fun hh => ?_)
          have := r'.old R _ hh (by omega)
          rw [hR'] at this
          exact absurd (Option.some.inj this) hv
      have hd := dl r
      have hR' : d[R]? = some (d[R]'(by omega)) := List.getElem?_eq_getElem _
      have hL' : d[L]? = some (d[L]'(by omega)) := List.getElem?_eq_getElem _
      generalize d[R]'(by omega) = vR at hR'
      generalize d[L]'(by omega) = vL at hL'
      simp only [hRe, hLe, ret_eq (gI_D hR'), ret_eq (gI_D hL'), hw]
      refine ⟨fun hv => ?_, fun hv => ?_⟩
      · subst hv
        by_cases hneg : vR < 0
        · simp only [J40_4, hneg, ret_some, ret_none, ret_bind, ret_map, ret_bif, Sum.elim_inl, Sum.elim_inr, decide_eq_true_eq, decide_eq_false_iff_not, stepQ_inl, stepQ_inr, Bool.not_eq_true', Bool.not_eq_false', beq_iff_eq, bne_iff_ne, ne_eq, beq_eq_false_iff_ne, bne_eq_false_iff_eq, ge_iff_le, gt_iff_lt, Int.not_le, Int.not_lt, reduceCtorEq, false_implies, true_implies, forall_const, and_true, true_and, Bool.true_eq_false, Bool.false_eq_true, implies_true, not_true_eq_false, not_false_eq_true, decide_true, decide_false, Bool.not_true, Bool.not_false, hRe, ret_eq (gI_D hR'), hw, setI_nat]
          refine second _ _ (r.half (isn r hL') (h.wk L n (isn r hL')) (lk_of (show t < _ from hb) jLR) hR' hneg) (fun q hq j i hjn hj => sset R _ (by omega) ⟨_, hR'⟩ (hsn q hq j i hjn hj)) (fun _ => ⟨_, List.getElem?_set_self (by omega), by omega⟩)
        · simp only [J40_4, hneg, ret_some, ret_none, ret_bind, ret_map, ret_bif, Sum.elim_inl, Sum.elim_inr, decide_eq_true_eq, decide_eq_false_iff_not, stepQ_inl, stepQ_inr, Bool.not_eq_true', Bool.not_eq_false', beq_iff_eq, bne_iff_ne, ne_eq, beq_eq_false_iff_ne, bne_eq_false_iff_eq, ge_iff_le, gt_iff_lt, Int.not_le, Int.not_lt, reduceCtorEq, false_implies, true_implies, forall_const, and_true, true_and, Bool.true_eq_false, Bool.false_eq_true, implies_true, not_true_eq_false, not_false_eq_true, decide_true, decide_false, Bool.not_true, Bool.not_false]
          exact second _ _ r hsn (fun _ => ⟨vR, hR', by omega⟩)
      · simp only [J40_4, ret_some, ret_none, ret_bind, ret_map, ret_bif, Sum.elim_inl, Sum.elim_inr, decide_eq_true_eq, decide_eq_false_iff_not, stepQ_inl, stepQ_inr, Bool.not_eq_true', Bool.not_eq_false', beq_iff_eq, bne_iff_ne, ne_eq, beq_eq_false_iff_ne, bne_eq_false_iff_eq, ge_iff_le, gt_iff_lt, Int.not_le, Int.not_lt, reduceCtorEq, false_implies, true_implies, forall_const, and_true, true_and, Bool.true_eq_false, Bool.false_eq_true, implies_true, not_true_eq_false, not_false_eq_true, decide_true, decide_false, Bool.not_true, Bool.not_false]
        refine second _ _ r hsn (fun hh => ?_)
        have := r.old L _ hh (by omega)
        rw [hL'] at this
        exact absurd (Option.some.inj this) hv
  · rw [show decide ((t : Int) < below) = false by simp; omega]
    exact stop (by omega)
theorem F40_ok (hs : s.2.1.length ≤ 400000) (hn : s.1.length ≤ 100000) {b : Nat} (hb : b < s.1.length) : Ret (F40 s (b : Int) below) (Dist (grM s below) b) := by
  have hgl : (grM s below).length = s.1.length := edgesM_len _ _ _
  simp only [F40, ret_some, ret_none, ret_bind, ret_map, ret_bif, Sum.elim_inl, Sum.elim_inr, decide_eq_true_eq, decide_eq_false_iff_not, stepQ_inl, stepQ_inr, Bool.not_eq_true', Bool.not_eq_false', beq_iff_eq, bne_iff_ne, ne_eq, beq_eq_false_iff_ne, bne_eq_false_iff_eq, ge_iff_le, gt_iff_lt, Int.not_le, Int.not_lt, reduceCtorEq, false_implies, true_implies, forall_const, and_true, true_and, Bool.true_eq_false, Bool.false_eq_true, implies_true, not_true_eq_false, not_false_eq_true, decide_true, decide_false, Bool.not_true, Bool.not_false]
  refine ⟨fun _ => ?_, fun h => absurd h (by omega)⟩
  refine ret_loop (fun q : Int × List Int => ∃ k : Nat, q.1 = (k : Int) ∧ k ≤ s.1.length ∧ q.2.length = s.1.length ∧ ∀ i : Nat, i < k → q.2[i]? = some (-1)) (fun q => s.1.length - q.1.toNat) ?_ _ ⟨0, rfl, by omega, by simp, fun i hi => by omega⟩
  rintro ⟨x6, D⟩ ⟨k, e1, hk, hl, hd⟩
  dsimp only at e1 hl hd
  subst e1
  simp only [L40_1, ret_some, ret_none, ret_bind, ret_map, ret_bif, Sum.elim_inl, Sum.elim_inr, decide_eq_true_eq, decide_eq_false_iff_not, stepQ_inl, stepQ_inr, Bool.not_eq_true', Bool.not_eq_false', beq_iff_eq, bne_iff_ne, ne_eq, beq_eq_false_iff_ne, bne_eq_false_iff_eq, ge_iff_le, gt_iff_lt, Int.not_le, Int.not_lt, reduceCtorEq, false_implies, true_implies, forall_const, and_true, true_and, Bool.true_eq_false, Bool.false_eq_true, implies_true, not_true_eq_false, not_false_eq_true, decide_true, decide_false, Bool.not_true, Bool.not_false]
  refine ⟨fun hlt => ret_gI (by omega) (by omega) fun y hy hm => ?_, fun hge => ?_⟩
  · have hw := wrap_succ k (by omega)
    simp only [ret_eq hy, hw]
    refine ⟨⟨k + 1, rfl, by omega, by rw [setI_len, hl], ?_⟩, by omega⟩
    intro i hi
    rw [setI_nat]
    by_cases e : k = i
    · subst e; rw [List.getElem?_set_self (by omega)]
    · rw [List.getElem?_set_ne e]; exact hd i (by omega)
  · have hDe : D = List.replicate s.1.length (-1) := by
      apply List.ext_getElem?
      intro i
      by_cases hi : i < s.1.length
      · rw [hd i (by omega)]; simp [hi]
      · rw [List.getElem?_eq_none (by omega), List.getElem?_eq_none (by simp; omega)]
    refine ret_gI (by omega) (by omega) fun y hy hm => ?_
    simp only [ret_eq hy]
    have B := BF.start (grM s below) b (by omega)
    rw [hDe, setI_nat, ← hgl]
    have bl : b < (List.replicate (grM s below).length (-1 : Int)).length := by simp; omega
    have vals : ∀ (i : Nat) (x : Int), ((List.replicate (grM s below).length (-1 : Int)).set b 0)[i]? = some x → (i = b ∧ x = 0) ∨ x = -1 := by
      intro i x h
      by_cases e : b = i
      · subst e; rw [List.getElem?_set_self bl] at h; cases h; exact .inl ⟨rfl, rfl⟩
      · rw [List.getElem?_set_ne e, List.getElem?_replicate] at h
        split at h
        · cases h; exact .inr rfl
        · cases h
    have hcnt := B.cnt
    simp only [List.length_cons, List.length_nil] at hcnt
    have r0 : Rn (grM s below) b 0 true ((List.replicate (grM s below).length (-1 : Int)).set b 0) := by
      refine ⟨B.dl, fun i x h => by rcases vals i x h with ⟨_, h⟩ | h <;> omega, B.wk, ?_, B.b0, fun h => (by cases h), fun _ => by omega, by omega⟩
      intro m i hm hw
      have : m = 0 := by omega
      subst this
      cases hw
      exact ⟨0, B.b0, by omega⟩
    refine ret_loop (fun q : Int × Bool × List Int => ∃ n : Nat, q.1 = n ∧ n ≤ s.1.length ∧ Rn (grM s below) b n q.2.1 q.2.2) (fun q => 2 * negs q.2.2 + (if q.2.1 then 1 else 0)) ?_ _ ⟨0, rfl, by omega, r0⟩
    · rintro ⟨n', more, d⟩ ⟨n, e, hnn, r⟩
      dsimp only at e r
      subst e
      simp only [L40_2, ret_some, ret_none, ret_bind, ret_map, ret_bif, Sum.elim_inl, Sum.elim_inr, decide_eq_true_eq, decide_eq_false_iff_not, stepQ_inl, stepQ_inr, Bool.not_eq_true', Bool.not_eq_false', beq_iff_eq, bne_iff_ne, ne_eq, beq_eq_false_iff_ne, bne_eq_false_iff_eq, ge_iff_le, gt_iff_lt, Int.not_le, Int.not_lt, reduceCtorEq, false_implies, true_implies, forall_const, and_true, true_and, Bool.true_eq_false, Bool.false_eq_true, implies_true, not_true_eq_false, not_false_eq_true, decide_true, decide_false, Bool.not_true, Bool.not_false]
      refine ⟨fun hm => ?_, fun hm => ?_⟩
      · subst hm
        have hc := r.cnt rfl
        refine loop40_3 hs hn r fun more' d' r' hy hle => ⟨⟨n + 1, rfl, by omega, r'⟩, ?_⟩
        dsimp only
        cases more' with
        | true => have := hy rfl; simp; omega
        | false => simp; omega
      · subst hm
        exact r.dist (by omega)
end
end Go.Dat
