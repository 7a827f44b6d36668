/-
 The reference's distances and paths.
-/
import Derived.Test.YtffkjnaocflmdaaPP
namespace Go.Dat
open Go.Eng
set_option linter.unusedSimpArgs false
set_option linter.unusedVariables false

theorem Dist.uniq {adj : Adj} {b : Nat} {D D' : List Int} (h : Dist adj b D) (h' : Dist adj b D') : D = D' := by
 apply List.ext_getElem?
 intro i
 by_cases hi : i < adj.length
 ·have e1 : D[i]? = some (D[i]'(by rw [h.len]; exact hi)) := List.getElem?_eq_getElem _
  have e2 : D'[i]? = some (D'[i]'(by rw [h'.len]; exact hi)) := List.getElem?_eq_getElem _
  generalize D[i]'(by rw [h.len]; exact hi) = x at e1
  generalize D'[i]'(by rw [h'.len]; exact hi) = y at e2
  have l1 := h.lo i x e1
  have l2 := h'.lo i y e2
  rw [e1, e2]
  by_cases hx : 0 ≤ x
  ·obtain ⟨d, rfl⟩ : ∃ d : Nat, x = d := ⟨x.toNat, by omega⟩
   obtain ⟨d', hd', hle⟩ := h'.all d i (h.wk i d e1)
   rw [e2] at hd'; have hy := Option.some.inj hd'; subst hy
   obtain ⟨d2, hd2, hle2⟩ := h.all d' i (h'.wk i d' e2)
   rw [e1] at hd2; have := Option.some.inj hd2
   congr 1; omega
  ·by_cases hy : 0 ≤ y
   ·obtain ⟨d', rfl⟩ : ∃ d : Nat, y = d := ⟨y.toNat, by omega⟩
    obtain ⟨d2, hd2, hle2⟩ := h.all d' i (h'.wk i d' e2)
    rw [e1] at hd2; have := Option.some.inj hd2; omega
   ·congr 1; omega
 ·rw [List.getElem?_eq_none (by rw [h.len]; omega), List.getElem?_eq_none (by rw [h'.len]; omega)]
theorem PathSays.uniq {s : SatT} {a b below : Int} {r r' : List Int} {k k' : Bool} (h : PathSays s a b below r k) (h' : PathSays s a b below r' k') : r = r' ∧ k = k' := by
 rcases h with ⟨n, rfl, rfl⟩ | ⟨ha, hb, D, hD, e⟩
 ·rcases h' with ⟨_, rfl, rfl⟩ | ⟨ha, hb, _⟩
  ·exact ⟨rfl, rfl⟩
  ·exact absurd ⟨ha, hb⟩ n
 ·rcases h' with ⟨n, _⟩ | ⟨_, _, D', hD', e'⟩
  ·exact absurd ⟨ha, hb⟩ n
  ·have := hD.uniq hD'
   subst this
   rw [← e'] at e
   exact ⟨congrArg Prod.fst e, congrArg Prod.snd e⟩

theorem F39_eq (l : List NodeT) (i : Int) : F39 l i = some (decide (inR l.length i)) := by
 refine Ret.eq ?_
 simp only [F39, J39_1, wp, Sum.elim_inl, Sum.elim_inr, ne_eq, ge_iff_le, gt_iff_lt, reduceCtorEq, forall_const, Bool.true_eq_false, Bool.false_eq_true, implies_true, inR]
 refine ⟨fun h => by simp [h], fun h => ?_⟩
 have : ¬ (0 ≤ i ∧ i < l.length) := by omega
 simp [this]
theorem F41_eq (l : List NodeT) (x : StepT) : F41 l x = some (decide (inR l.length x.1 ∧ inR l.length x.2.1)) := by
 refine Ret.eq ?_
 simp only [F41, J41_1, F39_eq, wp, Sum.elim_inl, Sum.elim_inr, ne_eq, ge_iff_le, gt_iff_lt, reduceCtorEq, forall_const, Bool.true_eq_false, Bool.false_eq_true, implies_true]
 refine ⟨fun h => by simp [h], fun h => by simp [h]⟩

/-! one round -/
structure Rd (adj : Adj) (b n : Nat) (D0 d : List Int) (more : Bool) : Prop where
 len : d.length = D0.length
 old : ∀ (i : Nat) (x : Int), D0[i]? = some x → 0 ≤ x → d[i]? = some x
 new : ∀ (i : Nat) (x : Int), d[i]? = some x → D0[i]? = some x ∨ (x = ((n + 1 : Nat) : Int) ∧ W adj b (n + 1) i ∧ ∃ y, D0[i]? = some y ∧ y < 0)
 yes : more = true → negs d < negs D0
 no : more = false → d = D0
theorem Rd.start (adj : Adj) (b n : Nat) (D0 : List Int) : Rd adj b n D0 D0 false := ⟨rfl, fun _ _ h _ => h, fun _ _ h => .inl h, fun h => (by cases h), fun _ => rfl⟩
theorem Rd.negs {adj : Adj} {b n : Nat} {D0 d : List Int} {more : Bool} (h : Rd adj b n D0 d more) : negs d ≤ negs D0 := by
 cases more with
 | true => have := h.yes rfl; omega
 | false => rw [h.no rfl]; exact Nat.le_refl _
theorem Rd.half {adj : Adj} {b n : Nat} {D0 d : List Int} {more : Bool} (h : Rd adj b n D0 d more) {j i : Nat} (hj : D0[j]? = some (n : Int)) (hw : W adj b n j) (hl : Lk adj j i) {y : Int} (hi : d[i]? = some y) (hy : y < 0) : Rd adj b n D0 (d.set i ((n + 1 : Nat) : Int)) true := by
 have hil := (List.getElem?_eq_some_iff.1 hi).1
 have hn := negs_set d i y ((n + 1 : Nat) : Int) hi hy (by omega)
 have := h.negs
 refine ⟨by rw [List.length_set]; exact h.len, fun m x hm hx => ?_, fun m x hm => ?_, fun _ => by omega, fun h => (by cases h)⟩
 ·by_cases e : i = m
  ·subst e
   have := h.old i x hm hx
   rw [hi] at this; cases this; omega
  ·rw [List.getElem?_set_ne e]; exact h.old m x hm hx
 ·by_cases e : i = m
  ·subst e
   rw [List.getElem?_set_self hil] at hm
   cases hm
   refine .inr ⟨rfl, ⟨j, hw, hl⟩, y, ?_, hy⟩
   rcases h.new i y hi with h1 | ⟨h1, _⟩
   ·exact h1
   ·omega
  ·rw [List.getElem?_set_ne e] at hm; exact h.new m x hm
def Seen (N : Nat) (l : List StepT) (n : Nat) (D0 d : List Int) (t : Nat) : Prop := ∀ q, q < t → ∀ j i : Nat, Joins N l q (j : Int) (i : Int) → D0[j]? = some (n : Int) → ∃ x, d[i]? = some x ∧ 0 ≤ x
theorem lk_of {N : Nat} {l : List StepT} {k q : Nat} {j i : Nat} (hq : q < k) (h : Joins N l q (j : Int) (i : Int)) : Lk (edgesM N l k) j i := ⟨(q : Int), by rw [mem_edges]; exact ⟨q, hq, rfl, h⟩⟩
theorem of_lk {N : Nat} {l : List StepT} {k j i : Nat} (h : Lk (edgesM N l k) j i) : ∃ q, q < k ∧ Joins N l q (j : Int) (i : Int) := by
 obtain ⟨t, ht⟩ := h
 rw [mem_edges] at ht
 obtain ⟨q, hq, _, hj⟩ := ht
 exact ⟨q, hq, hj⟩

/-- what holds between the rounds -/
structure Rn (adj : Adj) (b n : Nat) (more : Bool) (d : List Int) : Prop where
 len : d.length = adj.length
 lo : ∀ (i : Nat) (x : Int), d[i]? = some x → -1 ≤ x ∧ x ≤ n
 wk : ∀ (i m : Nat), d[i]? = some (m : Int) → W adj b m i
 all : ∀ (m i : Nat), m ≤ n → W adj b m i → ∃ e : Nat, d[i]? = some (e : Int) ∧ e ≤ m
 b0 : d[b]? = some ((0 : Nat) : Int)
 top : more = false → ∀ (i : Nat), d[i]? ≠ some (n : Int)
 cnt : more = true → n + negs d < adj.length
 cnt2 : n + negs d ≤ adj.length
theorem Rn.dist {adj : Adj} {b n : Nat} {d : List Int} (h : Rn adj b n false d) (hn : n ≤ adj.length) : Dist adj b d := by
 refine ⟨h.len, fun i x hi => ?_, h.wk, ?_, h.b0⟩
 ·have := h.lo i x hi; omega
 ·intro m
  induction m with
  | zero => intro i hw; exact h.all 0 i (by omega) hw
  | succ m ih =>
   rintro i ⟨j, hj, hl⟩
   obtain ⟨e, he, hle⟩ := ih j hj
   have h1 := h.lo j _ he
   have h2 := h.top rfl j
   have h3 : e ≠ n := fun hh => h2 (by rw [← hh]; exact he)
   obtain ⟨e2, he2, hle2⟩ := h.all (e + 1) i (by omega) ⟨j, h.wk j e he, hl⟩
   exact ⟨e2, he2, by omega⟩
theorem Rn.next {N : Nat} {l : List StepT} {k b n : Nat} {more : Bool} {D0 d : List Int} (h : Rn (edgesM N l k) b n true D0) (r : Rd (edgesM N l k) b n D0 d more) (hs : Seen N l n D0 d k) : Rn (edgesM N l k) b (n + 1) more d := by
 have hneg := r.negs
 have hc := h.cnt rfl
 refine ⟨by rw [r.len, h.len], fun i x hi => ?_, fun i m hi => ?_, fun m i hm hw => ?_, r.old b _ h.b0 (by omega), fun hf i hi => ?_, fun ht => ?_, by omega⟩
 ·rcases r.new i x hi with h1 | ⟨h1, _⟩
  ·have := h.lo i x h1; omega
  ·omega
 ·rcases r.new i _ hi with h1 | ⟨h1, h2, _⟩
  ·exact h.wk i m h1
  ·have : m = n + 1 := by omega
   rw [this]; exact h2
 ·by_cases hmn : m ≤ n
  ·obtain ⟨e, he, hle⟩ := h.all m i hmn hw
   exact ⟨e, r.old i _ he (by omega), hle⟩
  ·have : m = n + 1 := by omega
   subst this
   obtain ⟨j, hj, hl⟩ := hw
   obtain ⟨e, he, hle⟩ := h.all n j (by omega) hj
   by_cases hen : e < n
   ·obtain ⟨e2, he2, hle2⟩ := h.all (e + 1) i (by omega) ⟨j, h.wk j e he, hl⟩
    exact ⟨e2, r.old i _ he2 (by omega), by omega⟩
   ·have : e = n := by omega
    subst this
    obtain ⟨q, hq, hjn⟩ := of_lk hl
    obtain ⟨x, hx, hx0⟩ := hs q hq j i hjn he
    rcases r.new i x hx with h1 | ⟨h1, _⟩
    ·have := h.lo i x h1
     exact ⟨x.toNat, by rw [hx]; congr 1; omega, by omega⟩
    ·exact ⟨e + 1, by rw [hx, h1], by omega⟩
 ·rw [r.no hf] at hi
  have := h.lo i _ hi; omega
 ·have := r.yes ht; omega

section
variable {s : SatT} {below : Int}
/-- a round goes over the steps -/
theorem loop40_3 (hs : s.2.1.length ≤ 400000) (hn : s.1.length ≤ 100000) {b n : Nat} {D0 : List Int} (h : Rn (grM s below) b n true D0) {Q : (Int × Bool × List Int) ⊕ (List Int) → Prop}
  (hQ : ∀ more d, Rn (grM s below) b (n + 1) more d → (more = true → negs d < negs D0) → negs d ≤ negs D0 → Q (.inl (((n + 1 : Nat) : Int), more, d))) : Ret (loopL (L40_3 s below (n : Int)) (false, 0, D0)) Q := by
 have hgl : (grM s below).length = s.1.length := edgesM_len _ _ _
 have hc2 := h.cnt2
 have hw := wrap_succ n (by omega)
 refine ret_loop (fun q : Bool × Int × List Int => ∃ t : Nat, q.2.1 = t ∧ t ≤ min s.2.1.length below.toNat ∧ Rd (grM s below) b n D0 q.2.2 q.1 ∧ Seen s.1.length s.2.1 n D0 q.2.2 t) (fun q => s.2.1.length - q.2.1.toNat) ?_ _ ⟨0, rfl, by omega, Rd.start _ _ _ _, fun q hq => by omega⟩
 rintro ⟨more, t', d⟩ ⟨t, e, ht, r, hsn⟩
 dsimp only at e r hsn
 subst e
 have stop : t = min s.2.1.length below.toNat → Ret (J40_1 s (n : Int) more (t : Int) (false, d)) (StepQ (fun q : Bool × Int × List Int => ∃ t : Nat, q.2.1 = t ∧ t ≤ min s.2.1.length below.toNat ∧ Rd (grM s below) b n D0 q.2.2 q.1 ∧ Seen s.1.length s.2.1 n D0 q.2.2 t) (fun q => s.2.1.length - q.2.1.toNat) Q (more, (t : Int), d)) := fun hk => by
  simp only [J40_1, wp, Sum.elim_inl, Sum.elim_inr, ne_eq, ge_iff_le, gt_iff_lt, reduceCtorEq, forall_const, Bool.true_eq_false, Bool.false_eq_true, implies_true, hw]
  exact hQ more d (h.next r (by rw [← hk]; exact hsn)) r.yes r.negs
 simp only [L40_3, wp, Sum.elim_inl, Sum.elim_inr, ne_eq, ge_iff_le, gt_iff_lt, reduceCtorEq, forall_const, Bool.true_eq_false, Bool.false_eq_true, implies_true]
 refine ⟨fun hlt => ?_, fun hge => stop (by omega)⟩
 by_cases hb : t < min s.2.1.length below.toNat
 ·rw [show decide ((t : Int) < below) = true by simp; omega]
  have htl : t < s.2.1.length := by omega
  have hx : s.2.1[t]? = some s.2.1[t] := List.getElem?_eq_getElem htl
  have hg : gI s.2.1 (t : Int) = some s.2.1[t] := by rw [gI_nat, hx]
  generalize s.2.1[t] = x at hx hg
  have hwt := wrap_succ t (by omega)
  simp only [J40_1, wp, Sum.elim_inl, Sum.elim_inr, ne_eq, ge_iff_le, gt_iff_lt, reduceCtorEq, forall_const, Bool.true_eq_false, Bool.false_eq_true, implies_true, ret_eq hg, F41_eq]
  have done : ∀ more' d', Rd (grM s below) b n D0 d' more' → Seen s.1.length s.2.1 n D0 d' (t + 1) → Ret (J40_2 (t : Int) (more', d')) (StepQ (fun q : Bool × Int × List Int => ∃ t : Nat, q.2.1 = t ∧ t ≤ min s.2.1.length below.toNat ∧ Rd (grM s below) b n D0 q.2.2 q.1 ∧ Seen s.1.length s.2.1 n D0 q.2.2 t) (fun q => s.2.1.length - q.2.1.toNat) Q (more, (t : Int), d)) := fun more' d' r' hs' => by
   simp only [J40_2, wp, Sum.elim_inl, Sum.elim_inr, ne_eq, ge_iff_le, gt_iff_lt, reduceCtorEq, forall_const, Bool.true_eq_false, Bool.false_eq_true, implies_true, hwt]
   exact ⟨⟨t + 1, rfl, by omega, r', hs'⟩, by omega⟩
  refine ⟨fun hno => done _ _ r ?_, fun hyes => ?_⟩
  ·intro q hq j i hjn hj
   by_cases e : q < t
   ·exact hsn q e j i hjn hj
   ·have : q = t := by omega
    subst this
    obtain ⟨y, hy, h1, h2, _⟩ := hjn
    rw [hx] at hy; cases hy
    exact absurd ⟨h1, h2⟩ hno
  ·obtain ⟨hL, hR⟩ := hyes
   obtain ⟨L, hLe⟩ : ∃ L : Nat, x.1 = (L : Int) := ⟨x.1.toNat, by have := hL.1; omega⟩
   obtain ⟨R, hRe⟩ : ∃ R : Nat, x.2.1 = (R : Int) := ⟨x.2.1.toNat, by have := hR.1; omega⟩
   have hLl : L < s.1.length := by have := hL.2; omega
   have hRl : R < s.1.length := by have := hR.2; omega
   have dl : ∀ {d' : List Int} {m : Bool}, Rd (grM s below) b n D0 d' m → d'.length = s.1.length := fun r => by rw [r.len, h.len, hgl]
   have jLR : Joins s.1.length s.2.1 t (L : Int) (R : Int) := ⟨x, hx, hL, hR, .inl ⟨hLe, hRe⟩⟩
   have jRL : Joins s.1.length s.2.1 t (R : Int) (L : Int) := ⟨x, hx, hL, hR, .inr ⟨hRe, hLe⟩⟩
   have isn : ∀ {d' : List Int} {m : Bool} (r' : Rd (grM s below) b n D0 d' m) {j : Nat}, d'[j]? = some (n : Int) → D0[j]? = some (n : Int) := fun {d'} {m} r' {j} hj => by
    rcases r'.new j _ hj with h1 | ⟨h1, _⟩
    ·exact h1
    ·omega
   have sset : ∀ {d' : List Int} (i : Nat) (v : Int), 0 ≤ v → (∃ y, d'[i]? = some y) → ∀ {i' : Nat}, (∃ x, d'[i']? = some x ∧ 0 ≤ x) → ∃ x, (d'.set i v)[i']? = some x ∧ 0 ≤ x := fun {d'} i v hv ⟨y, hy⟩ {i'} ⟨z, hz, hz0⟩ => by
    by_cases e : i = i'
    ·subst e; exact ⟨v, List.getElem?_set_self (List.getElem?_eq_some_iff.1 hy).1, hv⟩
    ·rw [List.getElem?_set_ne e]; exact ⟨z, hz, hz0⟩
   -- the second half
   have second : ∀ (more' : Bool) (d' : List Int), Rd (grM s below) b n D0 d' more' → Seen s.1.length s.2.1 n D0 d' t → (D0[L]? = some (n : Int) → ∃ z, d'[R]? = some z ∧ 0 ≤ z) → Ret (J40_3 (n : Int) x (more', d')) fun a => Ret (Sum.elim (J40_2 (t : Int)) some a) (StepQ (fun q : Bool × Int × List Int => ∃ t : Nat, q.2.1 = t ∧ t ≤ min s.2.1.length below.toNat ∧ Rd (grM s below) b n D0 q.2.2 q.1 ∧ Seen s.1.length s.2.1 n D0 q.2.2 t) (fun q => s.2.1.length - q.2.1.toNat) Q (more, (t : Int), d)) := by
    intro more' d' r' hs' hf
    have hd' := dl r'
    have hR' : d'[R]? = some (d'[R]'(by omega)) := List.getElem?_eq_getElem _
    have hL' : d'[L]? = some (d'[L]'(by omega)) := List.getElem?_eq_getElem _
    generalize d'[R]'(by omega) = vR at hR'
    generalize d'[L]'(by omega) = vL at hL'
    have fin : ∀ (m : Bool) (d2 : List Int), Rd (grM s below) b n D0 d2 m → (∀ i : Nat, (∃ z, d'[i]? = some z ∧ 0 ≤ z) → ∃ z, d2[i]? = some z ∧ 0 ≤ z) → (D0[R]? = some (n : Int) → ∃ z, d2[L]? = some z ∧ 0 ≤ z) → Ret (J40_2 (t : Int) (m, d2)) (StepQ (fun q : Bool × Int × List Int => ∃ t : Nat, q.2.1 = t ∧ t ≤ min s.2.1.length below.toNat ∧ Rd (grM s below) b n D0 q.2.2 q.1 ∧ Seen s.1.length s.2.1 n D0 q.2.2 t) (fun q => s.2.1.length - q.2.1.toNat) Q (more, (t : Int), d)) := by
     intro m d2 r2 up hg2
     refine done m d2 r2 ?_
     intro q hq j i hjn hj
     by_cases e : q < t
     ·exact up i (hs' q e j i hjn hj)
     ·have : q = t := by omega
      subst this
      obtain ⟨y, hy, _, _, hor⟩ := hjn
      rw [hx] at hy; cases hy
      rcases hor with ⟨h1, h2⟩ | ⟨h1, h2⟩
      ·have e1 : j = L := by omega
       have e2 : i = R := by omega
       subst e1 e2
       exact up _ (hf hj)
      ·have e1 : j = R := by omega
       have e2 : i = L := by omega
       subst e1 e2
       exact hg2 hj
    simp only [J40_3, wp, Sum.elim_inl, Sum.elim_inr, ne_eq, ge_iff_le, gt_iff_lt, reduceCtorEq, forall_const, Bool.true_eq_false, Bool.false_eq_true, implies_true, hRe, hLe, ret_eq (gI_D hR'), ret_eq (gI_D hL'), hw]
    refine ⟨fun hv => ?_, fun hv => ?_⟩
    ·subst hv
     by_cases hneg : vL < 0
     ·simp only [J40_5, hneg, wp, Sum.elim_inl, Sum.elim_inr, ne_eq, ge_iff_le, gt_iff_lt, reduceCtorEq, forall_const, Bool.true_eq_false, Bool.false_eq_true, implies_true, hLe, ret_eq (gI_D hL'), hw, setI_nat]
      refine fin _ _ (r'.half (isn r' hR') (h.wk R n (isn r' hR')) (lk_of (show t < _ from hb) jRL) hL' hneg) (fun i hi => sset L _ (by omega) ⟨_, hL'⟩ hi) (fun _ => ⟨_, List.getElem?_set_self (by omega), by omega⟩)
     ·simp only [J40_5, hneg, wp, Sum.elim_inl, Sum.elim_inr, ne_eq, ge_iff_le, gt_iff_lt, reduceCtorEq, forall_const, Bool.true_eq_false, Bool.false_eq_true, implies_true]
      exact fin _ _ r' (fun i hi => hi) (fun _ => ⟨vL, hL', by omega⟩)
    ·simp only [J40_5, wp, Sum.elim_inl, Sum.elim_inr, ne_eq, ge_iff_le, gt_iff_lt, reduceCtorEq, forall_const, Bool.true_eq_false, Bool.false_eq_true, implies_true]
     refine fin _ _ r' (fun i hi => hi) (fun hh => ?_)
     have := r'.old R _ hh (by omega)
     rw [hR'] at this
     exact absurd (Option.some.inj this) hv
   have hd := dl r
   have hR' : d[R]? = some (d[R]'(by omega)) := List.getElem?_eq_getElem _
   have hL' : d[L]? = some (d[L]'(by omega)) := List.getElem?_eq_getElem _
   generalize d[R]'(by omega) = vR at hR'
   generalize d[L]'(by omega) = vL at hL'
   simp only [hRe, hLe, ret_eq (gI_D hR'), ret_eq (gI_D hL'), hw]
   refine ⟨fun hv => ?_, fun hv => ?_⟩
   ·subst hv
    by_cases hneg : vR < 0
    ·simp only [J40_4, hneg, wp, Sum.elim_inl, Sum.elim_inr, ne_eq, ge_iff_le, gt_iff_lt, reduceCtorEq, forall_const, Bool.true_eq_false, Bool.false_eq_true, implies_true, hRe, ret_eq (gI_D hR'), hw, setI_nat]
     refine second _ _ (r.half (isn r hL') (h.wk L n (isn r hL')) (lk_of (show t < _ from hb) jLR) hR' hneg) (fun q hq j i hjn hj => sset R _ (by omega) ⟨_, hR'⟩ (hsn q hq j i hjn hj)) (fun _ => ⟨_, List.getElem?_set_self (by omega), by omega⟩)
    ·simp only [J40_4, hneg, wp, Sum.elim_inl, Sum.elim_inr, ne_eq, ge_iff_le, gt_iff_lt, reduceCtorEq, forall_const, Bool.true_eq_false, Bool.false_eq_true, implies_true]
     exact second _ _ r hsn (fun _ => ⟨vR, hR', by omega⟩)
   ·simp only [J40_4, wp, Sum.elim_inl, Sum.elim_inr, ne_eq, ge_iff_le, gt_iff_lt, reduceCtorEq, forall_const, Bool.true_eq_false, Bool.false_eq_true, implies_true]
    refine second _ _ r hsn (fun hh => ?_)
    have := r.old L _ hh (by omega)
    rw [hL'] at this
    exact absurd (Option.some.inj this) hv
 ·rw [show decide ((t : Int) < below) = false by simp; omega]
  exact stop (by omega)
theorem F40_ok (hs : s.2.1.length ≤ 400000) (hn : s.1.length ≤ 100000) {b : Nat} (hb : b < s.1.length) : Ret (F40 s (b : Int) below) (Dist (grM s below) b) := by
 have hgl : (grM s below).length = s.1.length := edgesM_len _ _ _
 simp only [F40, wp, Sum.elim_inl, Sum.elim_inr, ne_eq, ge_iff_le, gt_iff_lt, reduceCtorEq, forall_const, Bool.true_eq_false, Bool.false_eq_true, implies_true]
 refine ⟨fun _ => ?_, fun h => absurd h (by omega)⟩
 refine ret_loop (fun q : Int × List Int => ∃ k : Nat, q.1 = (k : Int) ∧ k ≤ s.1.length ∧ q.2.length = s.1.length ∧ ∀ i : Nat, i < k → q.2[i]? = some (-1)) (fun q => s.1.length - q.1.toNat) ?_ _ ⟨0, rfl, by omega, by simp, fun i hi => by omega⟩
 rintro ⟨x6, D⟩ ⟨k, e1, hk, hl, hd⟩
 dsimp only at e1 hl hd
 subst e1
 simp only [L40_1, wp, Sum.elim_inl, Sum.elim_inr, ne_eq, ge_iff_le, gt_iff_lt, reduceCtorEq, forall_const, Bool.true_eq_false, Bool.false_eq_true, implies_true]
 refine ⟨fun hlt => ret_gI (by omega) (by omega) fun y hy hm => ?_, fun hge => ?_⟩
 ·have hw := wrap_succ k (by omega)
  simp only [ret_eq hy, hw]
  refine ⟨⟨k + 1, rfl, by omega, by rw [setI_len, hl], ?_⟩, by omega⟩
  intro i hi
  rw [setI_nat]
  by_cases e : k = i
  ·subst e; rw [List.getElem?_set_self (by omega)]
  ·rw [List.getElem?_set_ne e]; exact hd i (by omega)
 ·have hDe : D = List.replicate s.1.length (-1) := by
   apply List.ext_getElem?
   intro i
   by_cases hi : i < s.1.length
   ·rw [hd i (by omega)]; simp [hi]
   ·rw [List.getElem?_eq_none (by omega), List.getElem?_eq_none (by simp; omega)]
  refine ret_gI (by omega) (by omega) fun y hy hm => ?_
  simp only [ret_eq hy]
  have B := BF.start (grM s below) b (by omega)
  rw [hDe, setI_nat, ← hgl]
  have bl : b < (List.replicate (grM s below).length (-1 : Int)).length := by simp; omega
  have vals : ∀ (i : Nat) (x : Int), ((List.replicate (grM s below).length (-1 : Int)).set b 0)[i]? = some x → (i = b ∧ x = 0) ∨ x = -1 := by
   intro i x h
   by_cases e : b = i
   ·subst e; rw [List.getElem?_set_self bl] at h; cases h; exact .inl ⟨rfl, rfl⟩
   ·rw [List.getElem?_set_ne e, List.getElem?_replicate] at h
    split at h
    ·cases h; exact .inr rfl
    ·cases h
  have hcnt := B.cnt
  simp only [List.length_cons, List.length_nil] at hcnt
  have r0 : Rn (grM s below) b 0 true ((List.replicate (grM s below).length (-1 : Int)).set b 0) := by
   refine ⟨B.dl, fun i x h => by rcases vals i x h with ⟨_, h⟩ | h <;> omega, B.wk, ?_, B.b0, fun h => (by cases h), fun _ => by omega, by omega⟩
   intro m i hm hw
   have : m = 0 := by omega
   subst this
   cases hw
   exact ⟨0, B.b0, by omega⟩
  refine ret_loop (fun q : Int × Bool × List Int => ∃ n : Nat, q.1 = n ∧ n ≤ s.1.length ∧ Rn (grM s below) b n q.2.1 q.2.2) (fun q => 2 * negs q.2.2 + (if q.2.1 then 1 else 0)) ?_ _ ⟨0, rfl, by omega, r0⟩
  ·rintro ⟨n', more, d⟩ ⟨n, e, hnn, r⟩
   dsimp only at e r
   subst e
   simp only [L40_2, wp, Sum.elim_inl, Sum.elim_inr, ne_eq, ge_iff_le, gt_iff_lt, reduceCtorEq, forall_const, Bool.true_eq_false, Bool.false_eq_true, implies_true]
   refine ⟨fun hm => ?_, fun hm => ?_⟩
   ·subst hm
    have hc := r.cnt rfl
    refine loop40_3 hs hn r fun more' d' r' hy hle => ⟨⟨n + 1, rfl, by omega, r'⟩, ?_⟩
    dsimp only
    cases more' with
    | true => have := hy rfl; simp; omega
    | false => simp; omega
   ·subst hm
    exact r.dist (by omega)
end
end Go.Dat
/-
 The reference's paths.
-/
namespace Go.Dat
open Go.Eng
set_option linter.unusedSimpArgs false
set_option linter.unusedVariables false

def rowOf (n : Nat) (x : StepT) (k : Nat) (a : Nat) : List (Int × Int) := if inR n x.1 ∧ inR n x.2.1 then (if x.1 = (a : Int) then [(x.2.1, (k : Int))] else []) ++ (if x.2.1 = (a : Int) then [(x.1, (k : Int))] else []) else []
theorem addE_row (adj : Adj) (i : Int) (h0 : 0 ≤ i) (e : Int × Int) (a : Nat) (ha : a < adj.length) : (addE adj i e)[a]?.getD [] = adj[a]?.getD [] ++ (if i = (a : Int) then [e] else []) := by
 unfold addE
 by_cases h : i = (a : Int)
 ·subst h
  rw [if_pos rfl, Int.toNat_natCast, List.getElem?_set_self ha]; rfl
 ·rw [if_neg h, List.getElem?_set_ne (by omega), List.append_nil]
theorem stepE_row (n : Nat) (adj : Adj) (hn : adj.length = n) (k : Nat) (x : StepT) (a : Nat) (ha : a < n) : (stepE n adj k x)[a]?.getD [] = adj[a]?.getD [] ++ rowOf n x k a := by
 unfold stepE rowOf
 split
 ·rename_i h
  rw [addE_row _ _ h.2.1 _ _ (by rw [addE_len]; omega), addE_row _ _ h.1.1 _ _ (by omega), List.append_assoc]
 ·rw [List.append_nil]
theorem edges_at (n : Nat) (l : List StepT) (k : Nat) (x : StepT) (hx : l[k]? = some x) (a : Nat) (ha : a < n) : (edgesM n l (k + 1))[a]?.getD [] = (edgesM n l k)[a]?.getD [] ++ rowOf n x k a := by
 rw [edgesM_at hx, stepE_row n _ (edgesM_len _ _ _) _ _ _ ha]
theorem edges_pre (n : Nat) (l : List StepT) (a : Nat) (ha : a < n) (t : Nat) : ∀ m, t + m ≤ l.length → ∃ suf, (edgesM n l (t + m))[a]?.getD [] = (edgesM n l t)[a]?.getD [] ++ suf
 | 0, _ => ⟨[], by simp⟩
 | m + 1, h => by
  obtain ⟨suf, e⟩ := edges_pre n l a ha t m (by omega)
  have hx : l[t + m]? = some (l[t + m]'(by omega)) := List.getElem?_eq_getElem _
  refine ⟨suf ++ rowOf n (l[t + m]'(by omega)) (t + m) a, ?_⟩
  rw [← Nat.add_assoc, edges_at n l (t + m) _ hx a ha, e, List.append_assoc]
theorem find_pre {α : Type} {p : α → Bool} {l suf : List α} {x : α} (h : l.find? p = some x) : (l ++ suf).find? p = some x := by
 rw [List.find?_append, h]; rfl
theorem find_add {α : Type} {p : α → Bool} {l m : List α} (h : l.find? p = none) : (l ++ m).find? p = m.find? p := by
 rw [List.find?_append, h]; rfl

section
variable {s : SatT} {below : Int} {D : List Int} {a b : Nat}
theorem loop14_2 (hs : s.2.1.length ≤ 400000) (hn : s.1.length ≤ 100000) (hD : Dist (grM s below) b D) {c d : Nat} (hc : D[c]? = some ((d + 1 : Nat) : Int)) (out : List Int) (hout : out.length ≤ 100000)
  {Q : (Int × List Int) ⊕ (List Int × Bool) → Prop} (hQ : ∀ (j : Nat) (t : Int), ((grM s below)[c]?.getD []).find? (fun e => atD D e.1 == (d : Int)) = some ((j : Int), t) → D[j]? = some (d : Int) → Q (.inl ((j : Int), out ++ [t]))) :
  Ret (loopL (L14_2 s D) ((c : Int), 0, out)) Q := by
 have u : Und (grM s below) := edges_und _ _ _
 have hgl : (grM s below).length = s.1.length := edgesM_len _ _ _
 have hcl : c < s.1.length := by rw [← hgl, ← hD.len]; exact (List.getElem?_eq_some_iff.1 hc).1
 have hdb := hD.lo c _ hc
 refine ret_loop (fun q : Int × Int × List Int => q.1 = (c : Int) ∧ q.2.2 = out ∧ ∃ t : Nat, q.2.1 = t ∧ t ≤ min s.2.1.length below.toNat ∧ ((edgesM s.1.length s.2.1 t)[c]?.getD []).find? (fun e => atD D e.1 == (d : Int)) = none) (fun q => s.2.1.length - q.2.1.toNat) ?_ _ ⟨rfl, rfl, 0, rfl, by omega, by rw [edgesM, List.getElem?_replicate]; split <;> rfl⟩
 rintro ⟨c', t', out'⟩ ⟨e1, e2, t, e3, ht, hno⟩
 dsimp only at e1 e2 e3 hno
 subst e1 e2 e3
 have hlt : t < min s.2.1.length below.toNat := by
  refine Nat.lt_of_le_of_ne ht fun he => ?_
  obtain ⟨j, q, h1, h2⟩ := hD.step u hc
  rw [he] at hno
  rw [List.find?_eq_none] at hno
  exact hno _ h1 (by simpa using atD_of h2)
 have htl : t < s.2.1.length := by omega
 have hx : s.2.1[t]? = some s.2.1[t] := List.getElem?_eq_getElem htl
 have hg : gI s.2.1 (t : Int) = some s.2.1[t] := by rw [gI_nat, hx]
 generalize s.2.1[t] = x at hx hg
 have hrow := edges_at s.1.length s.2.1 t x hx c hcl
 have hw := wrap_succ t (by omega)
 have hwd : IntKind.wrap .i64 (((d + 1 : Nat) : Int) - 1) = (d : Int) := by rw [wrap_id (by omega) (by omega)]; omega
 -- a hit in this row is the hit of the whole
 have hit : ∀ e : Int × Int, (rowOf s.1.length x t c).find? (fun e => atD D e.1 == (d : Int)) = some e → ((grM s below)[c]?.getD []).find? (fun e => atD D e.1 == (d : Int)) = some e := by
  intro e he
  obtain ⟨suf, hsuf⟩ := edges_pre s.1.length s.2.1 c hcl (t + 1) (min s.2.1.length below.toNat - (t + 1)) (by omega)
  rw [show t + 1 + (min s.2.1.length below.toNat - (t + 1)) = min s.2.1.length below.toNat by omega] at hsuf
  rw [grM, hsuf]
  refine find_pre ?_
  rw [hrow, find_add hno]; exact he
 have miss : (rowOf s.1.length x t c).find? (fun e => atD D e.1 == (d : Int)) = none → ((edgesM s.1.length s.2.1 (t + 1))[c]?.getD []).find? (fun e => atD D e.1 == (d : Int)) = none := by
  intro he
  rw [hrow, find_add hno]; exact he
 have next : (rowOf s.1.length x t c).find? (fun e => atD D e.1 == (d : Int)) = none → (∃ t_1 : Nat, ((t + 1 : Nat) : Int) = (t_1 : Int) ∧ t_1 ≤ min s.2.1.length below.toNat ∧ ((edgesM s.1.length s.2.1 t_1)[c]?.getD []).find? (fun e => atD D e.1 == (d : Int)) = none) ∧ s.2.1.length - (((t + 1 : Nat) : Int)).toNat < s.2.1.length - ((t : Int)).toNat := fun he => ⟨⟨t + 1, rfl, by omega, miss he⟩, by omega⟩
 simp only [L14_2, wp, Sum.elim_inl, Sum.elim_inr, ne_eq, ge_iff_le, gt_iff_lt, reduceCtorEq, forall_const, Bool.true_eq_false, Bool.false_eq_true, implies_true]
 refine ⟨fun _ => ?_, fun h => absurd htl (by omega)⟩
 simp only [ret_eq hg, F41_eq, wp, Sum.elim_inl, Sum.elim_inr, ne_eq, ge_iff_le, gt_iff_lt, reduceCtorEq, forall_const, Bool.true_eq_false, Bool.false_eq_true, implies_true]
 refine ⟨fun hbad => ?_, fun hin => ?_⟩
 ·simp only [J14_2, wp, Sum.elim_inl, Sum.elim_inr, ne_eq, ge_iff_le, gt_iff_lt, reduceCtorEq, forall_const, Bool.true_eq_false, Bool.false_eq_true, implies_true, hw]
  exact next (by rw [rowOf, if_neg hbad]; rfl)
 ·obtain ⟨hL, hR⟩ := hin
  obtain ⟨L, hLe⟩ : ∃ L : Nat, x.1 = (L : Int) := ⟨x.1.toNat, by have := hL.1; omega⟩
  obtain ⟨R, hRe⟩ : ∃ R : Nat, x.2.1 = (R : Int) := ⟨x.2.1.toNat, by have := hR.1; omega⟩
  have hLl : L < D.length := by rw [hD.len, hgl]; have := hL.2; omega
  have hRl : R < D.length := by rw [hD.len, hgl]; have := hR.2; omega
  have hLD : D[L]? = some D[L] := List.getElem?_eq_getElem hLl
  have hRD : D[R]? = some D[R] := List.getElem?_eq_getElem hRl
  generalize D[L] = vL at hLD
  generalize D[R] = vR at hRD
  have row : rowOf s.1.length x t c = (if L = c then [((R : Int), (t : Int))] else []) ++ (if R = c then [((L : Int), (t : Int))] else []) := by
   rw [rowOf, if_pos ⟨hL, hR⟩, hLe, hRe]
   have e1 : ((L : Int) = (c : Int)) = (L = c) := propext ⟨fun h => by omega, fun h => by omega⟩
   have e2 : ((R : Int) = (c : Int)) = (R = c) := propext ⟨fun h => by omega, fun h => by omega⟩
   simp only [e1, e2]
  -- the second test
  have second : (L = c → vR ≠ (d : Int)) → Ret (J14_3 D (c : Int) (t : Int) x (false, out')) (fun a => Ret (Sum.elim (J14_2 (t : Int)) some a) (StepQ (fun q : Int × Int × List Int => q.1 = (c : Int) ∧ q.2.2 = out' ∧ ∃ t : Nat, q.2.1 = t ∧ t ≤ min s.2.1.length below.toNat ∧ ((edgesM s.1.length s.2.1 t)[c]?.getD []).find? (fun e => atD D e.1 == (d : Int)) = none) (fun q => s.2.1.length - q.2.1.toNat) Q ((c : Int), (t : Int), out'))) := by
   intro hfirst
   have h1 : ((if L = c then [((R : Int), (t : Int))] else []) : List (Int × Int)).find? (fun e => atD D e.1 == (d : Int)) = none := by
    split
    ·rename_i hLc
     have := hfirst hLc
     simp [atD_of hRD, this]
    ·rfl
   simp only [J14_3, wp, Sum.elim_inl, Sum.elim_inr, ne_eq, ge_iff_le, gt_iff_lt, reduceCtorEq, forall_const, Bool.true_eq_false, Bool.false_eq_true, implies_true, hRe, hLe]
   refine ⟨fun hRc => ?_, fun hRc => ?_⟩
   ·have hRc' : R = c := by omega
    simp only [ret_eq (gI_D hLD), ret_eq (gI_D hc), hwd]
    by_cases hv : vL = (d : Int)
    ·simp only [J14_4, hv, wp, Sum.elim_inl, Sum.elim_inr, ne_eq, ge_iff_le, gt_iff_lt, reduceCtorEq, forall_const, Bool.true_eq_false, Bool.false_eq_true, implies_true, beq_self_eq_true, hLe]
     refine ⟨fun _ => hQ L _ (hit _ ?_) (by rw [hLD, hv]), fun h => absurd h (by simp only [List.length_cons, List.length_nil]; omega)⟩
     rw [row, find_add h1, if_pos hRc']
     simp [atD_of hLD, hv]
    ·have : (vL == (d : Int)) = false := by simp [hv]
     simp only [J14_4, this, J14_2, wp, Sum.elim_inl, Sum.elim_inr, ne_eq, ge_iff_le, gt_iff_lt, reduceCtorEq, forall_const, Bool.true_eq_false, Bool.false_eq_true, implies_true, hw]
     refine next ?_
     rw [row, find_add h1, if_pos hRc']
     simp [atD_of hLD, hv]
   ·simp only [J14_4, J14_2, wp, Sum.elim_inl, Sum.elim_inr, ne_eq, ge_iff_le, gt_iff_lt, reduceCtorEq, forall_const, Bool.true_eq_false, Bool.false_eq_true, implies_true, hw]
    refine next ?_
    rw [row, find_add h1, if_neg (by omega)]
    rfl
  simp only [hLe, hRe]
  refine ⟨fun hLc => ?_, fun hLc => second (fun h => by omega)⟩
  have hLc' : L = c := by omega
  simp only [ret_eq (gI_D hRD), ret_eq (gI_D hc), hwd]
  by_cases hv : vR = (d : Int)
  ·simp only [J14_3, hv, wp, Sum.elim_inl, Sum.elim_inr, ne_eq, ge_iff_le, gt_iff_lt, reduceCtorEq, forall_const, Bool.true_eq_false, Bool.false_eq_true, implies_true, beq_self_eq_true, hRe]
   refine ⟨fun _ => hQ R _ (hit _ ?_) (by rw [hRD, hv]), fun h => absurd h (by simp only [List.length_cons, List.length_nil]; omega)⟩
   rw [row, if_pos hLc']
   refine find_pre ?_
   simp [atD_of hRD, hv]
  ·have : (vR == (d : Int)) = false := by simp [hv]
   rw [this]
   exact second (fun _ => hv)
theorem F14_ok (s : SatT) (a b below : Int) (hs : s.2.1.length ≤ 400000) (hn : s.1.length ≤ 100000) : Ret (F14 s a b below) fun r => PathSays s a b below r.1 r.2 := by
 simp only [F14, F39_eq, wp, Sum.elim_inl, Sum.elim_inr, ne_eq, ge_iff_le, gt_iff_lt, reduceCtorEq, forall_const, Bool.true_eq_false, Bool.false_eq_true, implies_true]
 by_cases ha : inR s.1.length a
 ·by_cases hb : inR s.1.length b
  ·simp only [ha, hb, wp, Sum.elim_inl, Sum.elim_inr, ne_eq, ge_iff_le, gt_iff_lt, reduceCtorEq, forall_const, Bool.true_eq_false, Bool.false_eq_true, implies_true, J14_1]
   obtain ⟨a, rfl⟩ : ∃ i : Nat, a = (i : Int) := ⟨a.toNat, by have := ha.1; omega⟩
   obtain ⟨b, rfl⟩ : ∃ j : Nat, b = (j : Int) := ⟨b.toNat, by have := hb.1; omega⟩
   have hgl : (grM s below).length = s.1.length := edgesM_len _ _ _
   refine Ret.mono (F40_ok hs hn (by have := hb.2; omega)) fun D _ hD => ?_
   have haD : a < D.length := by rw [hD.len]; have := ha.2; omega
   have hDa : D[a]? = some D[a] := List.getElem?_eq_getElem haD
   have hlo := hD.lo a _ hDa
   simp only [ret_eq (gI_D hDa)]
   refine ⟨fun hneg => .inr ⟨ha, hb, D, hD, by rw [shortM, atD_of hDa, if_pos hneg]⟩, fun hpos => ?_⟩
   obtain ⟨da, hda⟩ : ∃ da : Nat, D[a] = (da : Int) := ⟨D[a].toNat, by omega⟩
   rw [hda] at hDa
   have key : Ret (loopL (L14_1 s (b : Int) D) ((a : Int), [])) fun r => r = (pathM (grM s below) D da (a : Int), true) := by
    refine ret_loop (fun q : Int × List Int => ∃ c d : Nat, q.1 = (c : Int) ∧ D[c]? = some (d : Int) ∧ q.2 ++ pathM (grM s below) D d (c : Int) = pathM (grM s below) D da (a : Int) ∧ q.2.length + d = da) (fun q => (atD D q.1).toNat) ?_ _ ⟨a, da, rfl, hDa, rfl, by simp⟩
    rintro ⟨c', out⟩ ⟨c, d, e1, hc, hp, hl⟩
    dsimp only at e1 hp hl
    subst e1
    simp only [L14_1, wp, Sum.elim_inl, Sum.elim_inr, ne_eq, ge_iff_le, gt_iff_lt, reduceCtorEq, forall_const, Bool.true_eq_false, Bool.false_eq_true, implies_true]
    refine ⟨fun hne => ?_, fun he => ?_⟩
    ·obtain ⟨d, rfl⟩ : ∃ e, d = e + 1 := by
      cases d with
      | zero => exact absurd (hD.zero hc) (by omega)
      | succ e => exact ⟨e, rfl⟩
     refine loop14_2 hs hn hD hc out (by omega) fun j t hf hj => ⟨⟨j, d, rfl, hj, ?_, by simp only [List.length_append, List.length_cons, List.length_nil]; omega⟩, ?_⟩
     ·rw [← hp]
      have e : atD D (c : Int) - 1 = (d : Int) := by rw [atD_of hc]; omega
      have : pathM (grM s below) D (d + 1) (c : Int) = t :: pathM (grM s below) D d (j : Int) := by
       rw [pathM, e, Int.toNat_natCast, hf]
      rw [this, List.append_assoc]; rfl
     ·dsimp only
      rw [atD_of hj, atD_of hc]; omega
    ·have : c = b := by omega
     subst this
     have := hD.b0
     rw [hc] at this
     have hd0 : d = 0 := by have := Option.some.inj this; omega
     subst hd0
     simp only [pathM, List.append_nil] at hp
     rw [hp]
   refine Ret.mono key fun r _ hr => .inr ⟨ha, hb, D, hD, ?_⟩
   rw [shortM, atD_of hDa, if_neg (by omega), hr]; rfl
  ·simp only [ha, hb, wp, Sum.elim_inl, Sum.elim_inr, ne_eq, ge_iff_le, gt_iff_lt, reduceCtorEq, forall_const, Bool.true_eq_false, Bool.false_eq_true, implies_true, J14_1]
   exact .inl ⟨fun h => hb h.2, rfl, rfl⟩
 ·simp only [ha, wp, Sum.elim_inl, Sum.elim_inr, ne_eq, ge_iff_le, gt_iff_lt, reduceCtorEq, forall_const, Bool.true_eq_false, Bool.false_eq_true, implies_true, J14_1]
  exact .inl ⟨fun h => ha h.1, rfl, rfl⟩
/-- the path, as a function -/
noncomputable def pth (s : SatT) (a b below : Int) : List Int × Bool := (F8 s a b below).getD ([], false)
theorem pth_of {s : SatT} {a b below : Int} {r : List Int} {k : Bool} (hs : s.2.1.length ≤ 400000) (hn : s.1.length ≤ 100000) (h : PathSays s a b below r k) : pth s a b below = (r, k) := by
 obtain ⟨q, e, hq⟩ := F8_ok s a b below hs hn
 obtain ⟨h1, h2⟩ := hq.uniq h
 unfold pth
 rw [e, ← h1, ← h2]; rfl
theorem F8_eq (s : SatT) (a b below : Int) (hs : s.2.1.length ≤ 400000) (hn : s.1.length ≤ 100000) : F8 s a b below = some (pth s a b below) := by
 obtain ⟨q, e, hq⟩ := F8_ok s a b below hs hn
 rw [e, pth_of hs hn hq]
theorem F14_eq (s : SatT) (a b below : Int) (hs : s.2.1.length ≤ 400000) (hn : s.1.length ≤ 100000) : F14 s a b below = some (pth s a b below) := by
 obtain ⟨q, e, hq⟩ := F14_ok s a b below hs hn
 rw [e, pth_of hs hn hq]
theorem pth_says (s : SatT) (a b below : Int) (hs : s.2.1.length ≤ 400000) (hn : s.1.length ≤ 100000) : PathSays s a b below (pth s a b below).1 (pth s a b below).2 := by
 obtain ⟨q, e, hq⟩ := F8_ok s a b below hs hn
 rw [pth_of hs hn hq]; exact hq
end
end Go.Dat
/-
 Dependencies: what they are, and the program's way to them.
-/
namespace Go.Dat
open Go.Eng
set_option linter.unusedSimpArgs false
set_option linter.unusedVariables false

theorem F10_self (a : List Int) (h : a.length ≤ 1000000) : F10 a a = some true := by
 refine Ret.eq ?_
 simp only [F10, bne_self_eq_false, wp, Sum.elim_inl, Sum.elim_inr, ne_eq, ge_iff_le, gt_iff_lt, reduceCtorEq, forall_const, Bool.true_eq_false, Bool.false_eq_true, implies_true]
 refine ret_loop (fun i : Int => ∃ n : Nat, i = n ∧ n ≤ a.length) (fun i => a.length - i.toNat) ?_ _ ⟨0, rfl, by omega⟩
 rintro _ ⟨n, rfl, hn⟩
 simp only [L10_1, wp, Sum.elim_inl, Sum.elim_inr, ne_eq, ge_iff_le, gt_iff_lt, reduceCtorEq, forall_const, Bool.true_eq_false, Bool.false_eq_true, implies_true]
 refine fun hlt => ret_gI (by omega) hlt fun y hy hm => ?_
 have hw := wrap_succ n (by omega)
 simp only [ret_eq hy, wp, Sum.elim_inl, Sum.elim_inr, ne_eq, ge_iff_le, gt_iff_lt, reduceCtorEq, forall_const, Bool.true_eq_false, Bool.false_eq_true, implies_true, hw, bne_self_eq_false]
 exact ⟨⟨n + 1, rfl, by omega⟩, by omega⟩

def EdgeOk (s : SatT) (t : Int) : Prop := ∃ x, gI s.2.1 t = some x ∧ inR s.1.length x.1 ∧ inR s.1.length x.2.1
theorem EdgeOk.lt {s : SatT} {t : Int} (h : EdgeOk s t) : 0 ≤ t ∧ t < s.2.1.length := by
 obtain ⟨x, hx, _⟩ := h
 have := gI_some hx; exact ⟨this.1, this.2.1⟩
/-- step u depends on step t -/
def Succ (s : SatT) (u t : Int) : Prop := ∃ x y z, ∃ (k : Nat) (p q : Int), gI s.2.1 u = some x ∧ x.2.2.1 = 0 ∧ gI s.1 x.1 = some y ∧ gI s.1 x.2.1 = some z ∧ y.2.2[k]? = some p ∧ z.2.2[k]? = some q ∧ t ∈ (pth s p q u).1
inductive Dep (s : SatT) (l : List Int) : Int → Prop
 | base {t : Int} : t ∈ l → EdgeOk s t → Dep s l t
 | step {u t : Int} : Dep s l u → Succ s u t → Dep s l t

theorem pathM_mem {adj : Adj} {D : List Int} {e : Int} : ∀ {m : Nat} {a : Int}, e ∈ pathM adj D m a → ∃ (i : Nat) (j : Int), (j, e) ∈ adj[i]?.getD []
 | 0, _, h => by cases h
 | m + 1, a, h => by
  unfold pathM at h
  split at h
  ·rename_i x hx
   rcases List.mem_cons.1 h with rfl | h
   ·exact ⟨_, _, List.mem_of_find?_eq_some hx⟩
   ·exact pathM_mem h
  ·cases h
theorem says_mem {s : SatT} {a b below : Int} {row : List Int} {ok : Bool} (h : PathSays s a b below row ok) {t : Int} (ht : t ∈ row) : EdgeOk s t ∧ t < below := by
 rcases h with ⟨_, rfl, _⟩ | ⟨_, _, D, _, e⟩
 ·cases ht
 ·unfold shortM at e
  split at e
  ·cases e; cases ht
  ·cases e
   obtain ⟨i, j, hm⟩ := pathM_mem ht
   rw [grM, mem_edges] at hm
   obtain ⟨q, hq, hqt, x, hx, hl, hr, _⟩ := hm
   dsimp only at hqt
   subst hqt
   exact ⟨⟨x, by rw [gI_nat]; exact hx, hl, hr⟩, by omega⟩
theorem says_no {s : SatT} {a b below : Int} {row : List Int} {ok : Bool} (h : PathSays s a b below row ok) (ho : ok = false) : row = [] := by
 rcases h with ⟨_, rfl, _⟩ | ⟨_, _, D, _, e⟩
 ·rfl
 ·unfold shortM at e
  split at e
  ·cases e; rfl
  ·cases e; cases ho
theorem says_len {s : SatT} {a b below : Int} {row : List Int} {ok : Bool} (h : PathSays s a b below row ok) : row.length ≤ s.1.length := by
 by_cases hab : inR s.1.length a ∧ inR s.1.length b
 ·exact (PathSays.short h hab.1 hab.2).bd
 ·rcases h with ⟨_, rfl, _⟩ | ⟨ha, hb, _⟩
  ·simp
  ·exact absurd ⟨ha, hb⟩ hab

section
variable {s : SatT} (hs : s.2.1.length ≤ 400000) (hn : s.1.length ≤ 100000)
include hs hn
theorem Succ.edge {u t : Int} (h : Succ s u t) : EdgeOk s t ∧ t < u := by
 obtain ⟨x, y, z, k, p, q, _, _, _, _, _, _, ht⟩ := h
 exact says_mem (pth_says s p q u hs hn) ht
theorem Dep.edge {l : List Int} {t : Int} (h : Dep s l t) : EdgeOk s t := by
 cases h with
 | base _ h => exact h
 | step _ h => exact (Succ.edge hs hn h).1
end

/-! sets of steps -/
def falses : List Bool → Nat
 | [] => 0
 | x :: l => (bif x then 0 else 1) + falses l
theorem falses_set : ∀ (l : List Bool) (i : Nat), l[i]? = some false → falses (l.set i true) + 1 = falses l
 | [], i, h => by simp at h
 | a :: l, 0, h => by
  simp only [List.getElem?_cons_zero, Option.some.injEq] at h
  subst h
  simp only [List.set_cons_zero, falses, cond_true, cond_false]; omega
 | a :: l, i + 1, h => by
  simp only [List.getElem?_cons_succ] at h
  have := falses_set l i h
  simp only [List.set_cons_succ, falses]; omega
theorem falses_rep : ∀ n, falses (List.replicate n false) = n
 | 0 => rfl
 | n + 1 => by rw [List.replicate_succ, falses, falses_rep n]; simp only [cond_false]; omega
def idxs (n : Nat) (p : Nat → Bool) : List Int := ((List.range n).filter p).map fun (i : Nat) => (i : Int)
theorem idxs_succ (n : Nat) (p : Nat → Bool) : idxs (n + 1) p = idxs n p ++ (if p n then [(n : Int)] else []) := by
 unfold idxs
 rw [List.range_succ, List.filter_append, List.map_append]
 congr 1
 cases h : p n <;> simp [h]
theorem idxs_congr {n : Nat} {p q : Nat → Bool} (h : ∀ i, i < n → p i = q i) : idxs n p = idxs n q := by
 unfold idxs
 congr 1
 apply List.filter_congr
 intro i hi
 exact h i (List.mem_range.1 hi)
theorem idxs_len (n : Nat) (p : Nat → Bool) : (idxs n p).length ≤ n := by
 unfold idxs
 rw [List.length_map]
 exact Nat.le_trans (List.length_filter_le _ _) (by simp)
theorem idxs_mem {n : Nat} {p : Nat → Bool} {t : Int} (h : t ∈ idxs n p) : ∃ i : Nat, t = i ∧ i < n ∧ p i = true := by
 unfold idxs at h
 simp only [List.mem_map, List.mem_filter, List.mem_range] at h
 obtain ⟨i, ⟨h1, h2⟩, rfl⟩ := h
 exact ⟨i, rfl, h1, h2⟩

structure AddQ (s : SatT) (l : List Int) (need : List Bool) (queue : List Int) (need' : List Bool) (queue' : List Int) : Prop where
 len : need'.length = need.length
 up : ∀ t : Nat, need[t]? = some true → need'[t]? = some true
 has : ∀ t, t ∈ l → EdgeOk s t → gI need' t = some true
 q : ∃ new : List Int, queue' = queue ++ new ∧ falses need' + new.length = falses need ∧ (∀ x ∈ new, x ∈ l ∧ EdgeOk s x ∧ gI need' x = some true) ∧ ∀ t : Nat, need'[t]? = some true → need[t]? = some true ∨ (t : Int) ∈ new
theorem AddQ.nil {s : SatT} {need : List Bool} {queue : List Int} : AddQ s [] need queue need queue := ⟨rfl, fun _ h => h, fun t h => (by cases h), [], by simp, by simp, fun x h => (by cases h), fun t h => .inl h⟩
theorem AddQ.skip {s : SatT} {l : List Int} {need need' : List Bool} {queue queue' : List Int} (h : AddQ s l need queue need' queue') {y : Int} (hy : EdgeOk s y → gI need' y = some true) : AddQ s (l ++ [y]) need queue need' queue' := by
 obtain ⟨new, h1, h2, h3, h4⟩ := h.q
 refine ⟨h.len, h.up, fun t ht he => ?_, new, h1, h2, fun x hx => ?_, h4⟩
 ·rcases List.mem_append.1 ht with ht | ht
  ·exact h.has t ht he
  ·rw [List.mem_singleton.1 ht] at he ⊢; exact hy he
 ·obtain ⟨a, b, c⟩ := h3 x hx
  exact ⟨List.mem_append_left _ a, b, c⟩
theorem AddQ.push {s : SatT} {l : List Int} {need need' : List Bool} {queue queue' : List Int} (h : AddQ s l need queue need' queue') {y : Int} (he : EdgeOk s y) (hy : gI need' y = some false) : AddQ s (l ++ [y]) need queue (setI need' y true) (queue' ++ [y]) := by
 obtain ⟨new, h1, h2, h3, h4⟩ := h.q
 obtain ⟨y0, y1, y2⟩ := gI_some hy
 have self : gI (setI need' y true) y = some true := gI_set true y0 y1
 have up' : ∀ t : Int, gI need' t = some true → gI (setI need' y true) t = some true := fun t ht => by
  by_cases e : y = t
  ·subst e; exact self
  ·rw [gI_set_ne _ y0 e]; exact ht
 refine ⟨by rw [setI_len]; exact h.len, fun t ht => ?_, fun t ht he' => ?_, new ++ [y], by rw [h1, List.append_assoc], ?_, fun x hx => ?_, fun t ht => ?_⟩
 ·have := up' (t : Int) (by rw [gI_nat]; exact h.up t ht)
  rwa [gI_nat] at this
 ·rcases List.mem_append.1 ht with ht | ht
  ·exact up' t (h.has t ht he')
  ·rw [List.mem_singleton.1 ht]; exact self
 ·have := falses_set need' y.toNat y2
  simp only [List.length_append, List.length_cons, List.length_nil]
  show falses (need'.set y.toNat true) + _ = _
  omega
 ·rcases List.mem_append.1 hx with hx | hx
  ·obtain ⟨a, b, c⟩ := h3 x hx
   exact ⟨List.mem_append_left _ a, b, up' x c⟩
  ·rw [List.mem_singleton.1 hx]; exact ⟨by simp, he, self⟩
 ·by_cases e : y = (t : Int)
  ·exact .inr (by rw [← e]; simp)
  ·have : gI (setI need' y true) (t : Int) = some true := by rw [gI_nat]; exact ht
   rw [gI_set_ne _ y0 e, gI_nat] at this
   rcases h4 t this with h | h
   ·exact .inl h
   ·exact .inr (List.mem_append_left _ h)

theorem F33_ok {s : SatT} (l : List Int) (need : List Bool) (queue : List Int) (hl : l.length ≤ 9223372036854775807) (hlen : need.length = s.2.1.length) (hq : queue.length + falses need ≤ 1000000) :
  Ret (F33 l s.1 s.2.1 s.2.2.1 s.2.2.2.1 s.2.2.2.2.1 s.2.2.2.2.2.1 s.2.2.2.2.2.2 need queue) fun r => ∃ need' queue', r = (s.1, s.2.1, s.2.2.1, s.2.2.2.1, s.2.2.2.2.1, s.2.2.2.2.2.1, s.2.2.2.2.2.2, need', queue') ∧ AddQ s l need queue need' queue' := by
 unfold F33
 refine ret_loop (fun q => ∃ i : Nat, i ≤ l.length ∧ ∃ need' queue', q = ((i : Int), s.1, s.2.1, s.2.2.1, s.2.2.2.1, s.2.2.2.2.1, s.2.2.2.2.2.1, s.2.2.2.2.2.2, need', queue') ∧ AddQ s (l.take i) need queue need' queue') (fun q => l.length - q.1.toNat) ?_ _ ⟨0, by omega, need, queue, rfl, AddQ.nil⟩
 rintro _ ⟨i, hi, n', q', rfl, h⟩
 simp only [L33_1, wp, Sum.elim_inl, Sum.elim_inr, ne_eq, ge_iff_le, gt_iff_lt, reduceCtorEq, forall_const, Bool.true_eq_false, Bool.false_eq_true, implies_true]
 refine ⟨fun hlt => ret_gI (by omega) hlt fun y hy _ => ?_, fun hge => ?_⟩
 ·rw [gI_nat] at hy
  have hw := wrap_succ i (by omega)
  have htake : l.take (i + 1) = l.take i ++ [y] := by rw [List.take_add_one, hy]; rfl
  have hl' := h.len
  have step : ∀ n2 q2, AddQ s (l.take i ++ [y]) need queue n2 q2 → (∃ j : Nat, j ≤ l.length ∧ ∃ need' queue', (((i + 1 : Nat) : Int), s.1, s.2.1, s.2.2.1, s.2.2.2.1, s.2.2.2.2.1, s.2.2.2.2.2.1, s.2.2.2.2.2.2, n2, q2) = ((j : Int), s.1, s.2.1, s.2.2.1, s.2.2.2.1, s.2.2.2.2.1, s.2.2.2.2.2.1, s.2.2.2.2.2.2, need', queue') ∧ AddQ s (l.take j) need queue need' queue') ∧ l.length - (((i + 1 : Nat) : Int)).toNat < l.length - ((i : Int)).toNat := fun n2 q2 hA => ⟨⟨i + 1, by omega, n2, q2, rfl, by rw [htake]; exact hA⟩, by omega⟩
  have skip : (EdgeOk s y → gI n' y = some true) → Ret (J33_1 (i : Int) (s.1, s.2.1, s.2.2.1, s.2.2.2.1, s.2.2.2.2.1, s.2.2.2.2.2.1, s.2.2.2.2.2.2, n', q')) (StepQ (fun q => ∃ i : Nat, i ≤ l.length ∧ ∃ need' queue', q = ((i : Int), s.1, s.2.1, s.2.2.1, s.2.2.2.1, s.2.2.2.2.1, s.2.2.2.2.2.1, s.2.2.2.2.2.2, need', queue') ∧ AddQ s (l.take i) need queue need' queue') (fun q => l.length - q.1.toNat) (fun r => ∃ need' queue', r = (s.1, s.2.1, s.2.2.1, s.2.2.2.1, s.2.2.2.2.1, s.2.2.2.2.2.1, s.2.2.2.2.2.2, need', queue') ∧ AddQ s l need queue need' queue') ((i : Int), s.1, s.2.1, s.2.2.1, s.2.2.2.1, s.2.2.2.2.1, s.2.2.2.2.2.1, s.2.2.2.2.2.2, n', q')) := fun hsk => by
   simp only [J33_1, ret_some, stepQ_inl, hw]
   exact step n' q' (h.skip hsk)
  simp only [J33_2, wp, Sum.elim_inl, Sum.elim_inr, ne_eq, ge_iff_le, gt_iff_lt, reduceCtorEq, forall_const, Bool.true_eq_false, Bool.false_eq_true, implies_true]
  refine ⟨fun h0 => skip (fun he => by have := he.lt; omega), fun h0 => ⟨fun h1 => skip (fun he => by have := he.lt; omega), fun h1 => ?_⟩⟩
  refine ret_gI h0 (by omega) fun b hb _ => ?_
  simp only [ret_eq hb, F26_eq, wp, Sum.elim_inl, Sum.elim_inr, ne_eq, ge_iff_le, gt_iff_lt, reduceCtorEq, forall_const, Bool.true_eq_false, Bool.false_eq_true, implies_true]
  refine ⟨fun hbt => skip (fun _ => by rw [hb, hbt]), fun hbf => ?_⟩
  subst hbf
  refine ret_gI h0 h1 fun x hx _ => ?_
  refine ⟨fun hno => skip (fun he => ?_), fun hyes => ?_⟩
  ·obtain ⟨x', hx', h3, _⟩ := he
   rw [hx] at hx'; cases hx'
   exact absurd h3 hno
  ·simp only [ret_eq hx, wp, Sum.elim_inl, Sum.elim_inr, ne_eq, ge_iff_le, gt_iff_lt, reduceCtorEq, forall_const, Bool.true_eq_false, Bool.false_eq_true, implies_true]
   by_cases hR : inR s.1.length x.2.1
   ·simp only [hR, wp, Sum.elim_inl, Sum.elim_inr, ne_eq, ge_iff_le, gt_iff_lt, reduceCtorEq, forall_const, Bool.true_eq_false, Bool.false_eq_true, implies_true]
    obtain ⟨new, e1, e2, _⟩ := h.q
    have e3 : q'.length = queue.length + new.length := by rw [e1]; simp
    have e4 := falses_set n' y.toNat (gI_some hb).2.2
    refine ⟨fun _ => ?_, fun h => absurd h (by simp only [List.length_cons, List.length_nil]; omega)⟩
    simp only [J33_1, ret_some, stepQ_inl, hw]
    exact step _ _ (h.push ⟨x, hx, hyes, hR⟩ hb)
   ·simp only [hR, wp, Sum.elim_inl, Sum.elim_inr, ne_eq, ge_iff_le, gt_iff_lt, reduceCtorEq, forall_const, Bool.true_eq_false, Bool.false_eq_true, implies_true]
    refine skip (fun he => ?_)
    obtain ⟨x', hx', _, h3⟩ := he
    rw [hx] at hx'; cases hx'
    exact absurd h3 hR
 ·have : i = l.length := by omega
  subst this
  rw [List.take_length] at h
  exact ⟨n', q', rfl, h⟩
end Go.Dat
/-
 Dependencies as the program computes them.
-/
namespace Go.Dat
open Go.Eng
set_option linter.unusedSimpArgs false
set_option linter.unusedVariables false

structure Wk (s : SatT) (l : List Int) (ex : Int → Prop) (need : List Bool) (queue : List Int) : Prop where
 len : need.length = s.2.1.length
 sound : ∀ t : Nat, need[t]? = some true → Dep s l t
 base : ∀ t, t ∈ l → EdgeOk s t → gI need t = some true
 qs : ∀ x ∈ queue, gI need x = some true
 closed : ∀ u : Nat, need[u]? = some true → (u : Int) ∉ queue → ¬ ex u → ∀ t, Succ s u t → gI need t = some true
 cnt : queue.length + falses need ≤ s.2.1.length
theorem AddQ.up' {s : SatT} {l : List Int} {need need' : List Bool} {queue queue' : List Int} (h : AddQ s l need queue need' queue') {t : Int} (ht : gI need t = some true) : gI need' t = some true := by
 obtain ⟨h0, h1, h2⟩ := gI_some ht
 have := h.up t.toNat h2
 unfold gI; rw [if_pos h0]; exact this
theorem Wk.add {s : SatT} {l row : List Int} {ex : Int → Prop} {need need' : List Bool} {queue queue' : List Int} (h : Wk s l ex need queue) (a : AddQ s row need queue need' queue') (hd : ∀ t ∈ row, EdgeOk s t → Dep s l t) : Wk s l ex need' queue' ∧ 2 * falses need' + queue'.length ≤ 2 * falses need + queue.length := by
 obtain ⟨new, h1, h2, h3, h4⟩ := a.q
 subst h1
 refine ⟨⟨by rw [a.len, h.len], fun t ht => ?_, fun t ht he => a.up' (h.base t ht he), fun x hx => ?_, fun u hu hq hx t ht => ?_, ?_⟩, ?_⟩
 ·rcases h4 t ht with h5 | h5
  ·exact h.sound t h5
  ·obtain ⟨b, c, _⟩ := h3 _ h5
   exact hd _ b c
 ·rcases List.mem_append.1 hx with hx | hx
  ·exact a.up' (h.qs x hx)
  ·exact (h3 x hx).2.2
 ·rcases h4 u hu with h5 | h5
  ·exact a.up' (h.closed u h5 (fun h6 => hq (List.mem_append_left _ h6)) hx t ht)
  ·exact absurd (List.mem_append_right _ h5) hq
 ·have := h.cnt
  simp only [List.length_append]; omega
 ·simp only [List.length_append]; omega
theorem pth_mem {s : SatT} (hs : s.2.1.length ≤ 400000) (hn : s.1.length ≤ 100000) {a b below t : Int} (h : t ∈ (pth s a b below).1) : EdgeOk s t ∧ t < below := says_mem (pth_says s a b below hs hn) h

section
variable {s : SatT} (hs : s.2.1.length ≤ 400000) (hn : s.1.length ≤ 100000) (l : List Int)
include hs hn
/-- what Dependencies returns -/
def DepQ (s : SatT) (l : List Int) (out : List Int) : Prop := ∃ p : Nat → Bool, out = idxs s.2.1.length p ∧ ∀ t : Nat, t < s.2.1.length → (p t = true ↔ Dep s l (t : Int))
omit hs hn in
theorem DepQ.uniq {a b : List Int} (h : DepQ s l a) (h' : DepQ s l b) : a = b := by
 obtain ⟨p, rfl, hp⟩ := h
 obtain ⟨q, rfl, hq⟩ := h'
 refine idxs_congr fun i hi => ?_
 have h1 := hp i hi
 have h2 := hq i hi
 cases h3 : p i <;> cases h4 : q i <;> simp_all
omit hs hn in
theorem DepQ.len {a : List Int} (h : DepQ s l a) : a.length ≤ s.2.1.length := by
 obtain ⟨p, rfl, hp⟩ := h; exact idxs_len _ _
theorem loop11_2 {u : Int} {x : StepT} {y z : NodeT} (hx : gI s.2.1 u = some x) (hw0 : x.2.2.1 = 0) (hy : gI s.1 x.1 = some y) (hz : gI s.1 x.2.1 = some z) (hdu : Dep s l u) (hky : y.2.2.length ≤ 100000) (M : Nat) {need : List Bool} {queue : List Int} (W : Wk s l (· = u) need queue) (hM : 2 * falses need + queue.length < M)
  {Q : ((List NodeT) × (List StepT) × (List (Int × Int × Int)) × Int × Int × Int × Int × List Bool × List Int) ⊕ (List Int) → Prop}
  (hQ : ∀ need' queue', Wk s l (fun _ => False) need' queue' → 2 * falses need' + queue'.length < M → Q (.inl (s.1, s.2.1, s.2.2.1, s.2.2.2.1, s.2.2.2.2.1, s.2.2.2.2.2.1, s.2.2.2.2.2.2, need', queue'))) :
  Ret (loopL (L11_2 y z (grM s u)) (0, s.1, s.2.1, s.2.2.1, s.2.2.2.1, s.2.2.2.2.1, s.2.2.2.2.2.1, s.2.2.2.2.2.2, need, queue)) Q := by
 have hgl : (grM s u).length = s.1.length := edgesM_len _ _ _
 refine ret_loop (fun q => ∃ k : Nat, k ≤ y.2.2.length ∧ ∃ n' q', q = ((k : Int), s.1, s.2.1, s.2.2.1, s.2.2.2.1, s.2.2.2.2.1, s.2.2.2.2.2.1, s.2.2.2.2.2.2, n', q') ∧ Wk s l (· = u) n' q' ∧ 2 * falses n' + q'.length < M ∧ ∀ j p q, j < k → y.2.2[j]? = some p → z.2.2[j]? = some q → ∀ t ∈ (pth s p q u).1, gI n' t = some true) (fun q => y.2.2.length - q.1.toNat) ?_ _ ⟨0, by omega, need, queue, rfl, W, hM, fun j p q hj => by omega⟩
 rintro _ ⟨k, hk, n', q', rfl, W', hM', hpart⟩
 have stop : (∀ p q, y.2.2[k]? = some p → z.2.2[k]? = some q → False) → Q (.inl (s.1, s.2.1, s.2.2.1, s.2.2.2.1, s.2.2.2.2.1, s.2.2.2.2.2.1, s.2.2.2.2.2.2, n', q')) := fun hend => by
  refine hQ n' q' ⟨W'.len, W'.sound, W'.base, W'.qs, fun v hv hq _ t ht => ?_, W'.cnt⟩ hM'
  by_cases e : (v : Int) = u
  ·obtain ⟨x', y', z', j, p, q, hx', _, hy', hz', hp, hq', ht'⟩ := ht
   rw [e, hx] at hx'; cases hx'
   rw [hy] at hy'; cases hy'
   rw [hz] at hz'; cases hz'
   rw [e] at ht'
   by_cases hjk : j < k
   ·exact hpart j p q hjk hp hq' t ht'
   ·exfalso
    have h1 := (List.getElem?_eq_some_iff.1 hp).1
    have h2 := (List.getElem?_eq_some_iff.1 hq').1
    exact hend _ _ (List.getElem?_eq_getElem (show k < y.2.2.length by omega)) (List.getElem?_eq_getElem (show k < z.2.2.length by omega))
  ·exact W'.closed v hv hq e t ht
 have fin : Q (.inl (s.1, s.2.1, s.2.2.1, s.2.2.2.1, s.2.2.2.2.1, s.2.2.2.2.2.1, s.2.2.2.2.2.2, n', q')) → Ret (J11_1 y z (grM s u) (k : Int) (false, s.1, s.2.1, s.2.2.1, s.2.2.2.1, s.2.2.2.2.1, s.2.2.2.2.2.1, s.2.2.2.2.2.2, n', q')) (StepQ (fun q => ∃ k : Nat, k ≤ y.2.2.length ∧ ∃ n' q', q = ((k : Int), s.1, s.2.1, s.2.2.1, s.2.2.2.1, s.2.2.2.2.1, s.2.2.2.2.2.1, s.2.2.2.2.2.2, n', q') ∧ Wk s l (· = u) n' q' ∧ 2 * falses n' + q'.length < M ∧ ∀ j p q, j < k → y.2.2[j]? = some p → z.2.2[j]? = some q → ∀ t ∈ (pth s p q u).1, gI n' t = some true) (fun q => y.2.2.length - q.1.toNat) Q ((k : Int), s.1, s.2.1, s.2.2.1, s.2.2.2.1, s.2.2.2.2.1, s.2.2.2.2.2.1, s.2.2.2.2.2.2, n', q')) := fun hq => by
  simp only [J11_1, wp, Sum.elim_inl, Sum.elim_inr, ne_eq, ge_iff_le, gt_iff_lt, reduceCtorEq, forall_const, Bool.true_eq_false, Bool.false_eq_true, implies_true]; exact hq
 simp only [L11_2, wp, Sum.elim_inl, Sum.elim_inr, ne_eq, ge_iff_le, gt_iff_lt, reduceCtorEq, forall_const, Bool.true_eq_false, Bool.false_eq_true, implies_true]
 refine ⟨fun hlt => ?_, fun hge => fin (stop fun p q hp _ => by have := (List.getElem?_eq_some_iff.1 hp).1; omega)⟩
 by_cases hz2 : k < z.2.2.length
 ·rw [show decide ((k : Int) < (z.2.2.length : Int)) = true by simp; omega]
  have hky' : k < y.2.2.length := by omega
  obtain ⟨p, hp⟩ : ∃ p, y.2.2[k]? = some p := ⟨_, List.getElem?_eq_getElem hky'⟩
  obtain ⟨q, hq⟩ : ∃ q, z.2.2[k]? = some q := ⟨_, List.getElem?_eq_getElem hz2⟩
  have gp : gI y.2.2 (k : Int) = some p := by rw [gI_nat, hp]
  have gq : gI z.2.2 (k : Int) = some q := by rw [gI_nat, hq]
  have hwk := wrap_succ k (by omega)
  have hsucc : ∀ t ∈ (pth s p q u).1, Succ s u t := fun t ht => ⟨x, y, z, k, p, q, hx, hw0, hy, hz, hp, hq, ht⟩
  have next : ∀ n2 q2, Wk s l (· = u) n2 q2 → 2 * falses n2 + q2.length < M → (∀ t : Int, gI n' t = some true → gI n2 t = some true) → (∀ t ∈ (pth s p q u).1, gI n2 t = some true) → Ret (J11_2 (k : Int) (s.1, s.2.1, s.2.2.1, s.2.2.2.1, s.2.2.2.2.1, s.2.2.2.2.2.1, s.2.2.2.2.2.2, n2, q2)) (StepQ (fun q => ∃ k : Nat, k ≤ y.2.2.length ∧ ∃ n' q', q = ((k : Int), s.1, s.2.1, s.2.2.1, s.2.2.2.1, s.2.2.2.2.1, s.2.2.2.2.2.1, s.2.2.2.2.2.2, n', q') ∧ Wk s l (· = u) n' q' ∧ 2 * falses n' + q'.length < M ∧ ∀ j p q, j < k → y.2.2[j]? = some p → z.2.2[j]? = some q → ∀ t ∈ (pth s p q u).1, gI n' t = some true) (fun q => y.2.2.length - q.1.toNat) Q ((k : Int), s.1, s.2.1, s.2.2.1, s.2.2.2.1, s.2.2.2.2.1, s.2.2.2.2.2.1, s.2.2.2.2.2.2, n', q')) := fun n2 q2 W2 hM2 hup hall => by
   simp only [J11_2, ret_some, stepQ_inl, hwk]
   refine ⟨⟨k + 1, by omega, n2, q2, rfl, W2, hM2, fun j p' q' hj hp' hq' t ht => ?_⟩, by show y.2.2.length - (((k + 1 : Nat) : Int)).toNat < y.2.2.length - ((k : Int)).toNat; omega⟩
   by_cases e : j < k
   ·exact hup t (hpart j p' q' e hp' hq' t ht)
   ·have : j = k := by omega
    subst this
    rw [hp] at hp'; cases hp'
    rw [hq] at hq'; cases hq'
    exact hall t ht
  have none' : (pth s p q u).1 = [] → Ret (J11_2 (k : Int) (s.1, s.2.1, s.2.2.1, s.2.2.2.1, s.2.2.2.2.1, s.2.2.2.2.2.1, s.2.2.2.2.2.2, n', q')) (StepQ (fun q => ∃ k : Nat, k ≤ y.2.2.length ∧ ∃ n' q', q = ((k : Int), s.1, s.2.1, s.2.2.1, s.2.2.2.1, s.2.2.2.2.1, s.2.2.2.2.2.1, s.2.2.2.2.2.2, n', q') ∧ Wk s l (· = u) n' q' ∧ 2 * falses n' + q'.length < M ∧ ∀ j p q, j < k → y.2.2[j]? = some p → z.2.2[j]? = some q → ∀ t ∈ (pth s p q u).1, gI n' t = some true) (fun q => y.2.2.length - q.1.toNat) Q ((k : Int), s.1, s.2.1, s.2.2.1, s.2.2.2.1, s.2.2.2.2.1, s.2.2.2.2.2.1, s.2.2.2.2.2.2, n', q')) := fun he => next n' q' W' hM' (fun _ h => h) (fun t ht => by rw [he] at ht; cases ht)
  have says := pth_says s p q u hs hn
  simp only [J11_1, wp, Sum.elim_inl, Sum.elim_inr, ne_eq, ge_iff_le, gt_iff_lt, reduceCtorEq, forall_const, Bool.true_eq_false, Bool.false_eq_true, implies_true, ret_eq gp, ret_eq gq, F26_eq]
  refine ⟨fun hip => ?_, fun hip => ?_⟩
  ·by_cases hiq : inR s.1.length q
   ·simp only [J11_3, hiq, wp, Sum.elim_inl, Sum.elim_inr, ne_eq, ge_iff_le, gt_iff_lt, reduceCtorEq, forall_const, Bool.true_eq_false, Bool.false_eq_true, implies_true, ret_eq gp, ret_eq gq]
    obtain ⟨i, rfl⟩ : ∃ i : Nat, p = (i : Int) := ⟨p.toNat, by have := hip.1; omega⟩
    obtain ⟨j, rfl⟩ : ∃ j : Nat, q = (j : Int) := ⟨q.toNat, by have := hiq.1; omega⟩
    have hrl : RowLe (grM s u) 1000000 := fun r hr => by have := edgesM_le _ _ _ r hr; omega
    refine Ret.mono (F27_ok (edges_und _ _ _) (by omega) hrl (by have := hip.2; omega) (by have := hiq.2; omega)) fun r _ hr => ?_
    obtain ⟨D, hD, e⟩ := hr
    have hpr : pth s (i : Int) (j : Int) u = (r.1, r.2) := pth_of hs hn (.inr ⟨hip, hiq, D, hD, e⟩)
    refine ⟨fun hok => ?_, fun hok => none' (by rw [hpr] at says ⊢; exact says_no says hok)⟩
    have hrl := says_len says
    rw [hpr] at hrl
    have hc := W'.cnt
    refine Ret.mono (F33_ok (s := s) r.1 n' q' (by simp only at hrl; omega) W'.len (by omega)) fun res _ hres => ?_
    obtain ⟨n2, q2, rfl, A⟩ := hres
    have hdep : ∀ t ∈ r.1, EdgeOk s t → Dep s l t := fun t ht _ => .step hdu (hsucc t (by rw [hpr]; exact ht))
    obtain ⟨W2, hM2⟩ := W'.add A hdep
    refine next n2 q2 W2 (by omega) (fun t ht => A.up' ht) (fun t ht => ?_)
    have he := (pth_mem hs hn ht).1
    rw [hpr] at ht
    exact A.has t ht he
   ·simp only [J11_3, hiq, wp, Sum.elim_inl, Sum.elim_inr, ne_eq, ge_iff_le, gt_iff_lt, reduceCtorEq, forall_const, Bool.true_eq_false, Bool.false_eq_true, implies_true]
    refine none' ?_
    rcases says with ⟨_, h, _⟩ | ⟨_, h, _⟩
    ·exact h
    ·exact absurd h hiq
  ·simp only [J11_3, wp, Sum.elim_inl, Sum.elim_inr, ne_eq, ge_iff_le, gt_iff_lt, reduceCtorEq, forall_const, Bool.true_eq_false, Bool.false_eq_true, implies_true]
   refine none' ?_
   rcases says with ⟨_, h, _⟩ | ⟨h, _⟩
   ·exact h
   ·exact absurd h hip
 ·rw [show decide ((k : Int) < (z.2.2.length : Int)) = false by simp; omega]
  exact fin (stop fun p q _ hq => by have := (List.getElem?_eq_some_iff.1 hq).1; omega)
omit hn in
theorem loop11_3 {need : List Bool} (hl : need.length = s.2.1.length) : Ret (loopL (L11_3 need) (0, [], need)) fun out => out = idxs s.2.1.length fun t => need[t]? == some true := by
 refine ret_loop (fun q : Int × List Int × List Bool => ∃ i : Nat, q.1 = i ∧ i ≤ s.2.1.length ∧ q.2.1 = idxs i (fun t => need[t]? == some true) ∧ q.2.2 = need) (fun q => s.2.1.length - q.1.toNat) ?_ _ ⟨0, rfl, by omega, rfl, rfl⟩
 rintro ⟨i', out, n'⟩ ⟨i, e1, hi, e2, e3⟩
 dsimp only at e1 e2 e3
 subst e1 e2 e3
 simp only [L11_3, wp, Sum.elim_inl, Sum.elim_inr, ne_eq, ge_iff_le, gt_iff_lt, reduceCtorEq, forall_const, Bool.true_eq_false, Bool.false_eq_true, implies_true, hl]
 refine ⟨fun hlt => ret_gI (by omega) (by omega) fun b hb _ => ?_, fun hge => ?_⟩
 ·have hw := wrap_succ i (by omega)
  have hlen := idxs_len i fun t => n'[t]? == some true
  simp only [ret_eq hb, J11_4, wp, Sum.elim_inl, Sum.elim_inr, ne_eq, ge_iff_le, gt_iff_lt, reduceCtorEq, forall_const, Bool.true_eq_false, Bool.false_eq_true, implies_true, hw]
  rw [gI_nat] at hb
  refine ⟨fun hbt => ⟨fun _ => ?_, fun h => absurd h (by simp only [List.length_cons, List.length_nil]; omega)⟩, fun hbf => ?_⟩
  ·refine ⟨⟨i + 1, rfl, by omega, ?_⟩, by omega⟩
   rw [idxs_succ, hb, hbt]; rfl
  ·refine ⟨⟨i + 1, rfl, by omega, ?_⟩, by omega⟩
   rw [idxs_succ, hb, hbf]; simp
 ·have : i = s.2.1.length := by omega
  rw [this]
theorem F11_ok (hl : l.length ≤ 9223372036854775807) (hk : ∀ x ∈ s.1, x.2.2.length ≤ 100000) : Ret (F11 s l) (DepQ s l) := by
 simp only [F11, wp, Sum.elim_inl, Sum.elim_inr, ne_eq, ge_iff_le, gt_iff_lt, reduceCtorEq, forall_const, Bool.true_eq_false, Bool.false_eq_true, implies_true]
 refine ⟨fun _ => ?_, fun h => absurd h (by omega)⟩
 have hrep : (List.replicate (Int.toNat (s.2.1.length : Int)) false).length = s.2.1.length := by simp
 have hfr : falses (List.replicate (Int.toNat (s.2.1.length : Int)) false) = s.2.1.length := by rw [falses_rep]; simp
 refine Ret.mono (F33_ok (s := s) l _ [] hl hrep (by rw [hfr]; simp; omega)) fun r _ hr => ?_
 obtain ⟨n0, q0, rfl, A⟩ := hr
 have W0 : Wk s l (fun _ => False) n0 q0 := by
  obtain ⟨new, h1, h2, h3, h4⟩ := A.q
  rw [List.nil_append] at h1
  subst h1
  have h5 : ∀ t : Nat, n0[t]? = some true → (t : Int) ∈ q0 := fun t ht => by
   rcases h4 t ht with h | h
   ·rw [List.getElem?_replicate] at h
    split at h <;> cases h
   ·exact h
  exact ⟨by rw [A.len, hrep], fun t ht => .base (h3 _ (h5 t ht)).1 (h3 _ (h5 t ht)).2.1, A.has, fun x hx => (h3 x hx).2.2, fun u hu hq => absurd (h5 u hu) hq, by rw [hfr] at h2; omega⟩
 refine ret_loop (fun q => ∃ n' q', q = (s.1, s.2.1, s.2.2.1, s.2.2.2.1, s.2.2.2.2.1, s.2.2.2.2.2.1, s.2.2.2.2.2.2, n', q') ∧ Wk s l (fun _ => False) n' q') (fun q => 2 * falses q.2.2.2.2.2.2.2.1 + q.2.2.2.2.2.2.2.2.length) ?_ _ ⟨n0, q0, rfl, W0⟩
 rintro _ ⟨need, queue, rfl, W⟩
 simp only [L11_1, wp, Sum.elim_inl, Sum.elim_inr, ne_eq, ge_iff_le, gt_iff_lt, reduceCtorEq, forall_const, Bool.true_eq_false, Bool.false_eq_true, implies_true]
 refine ⟨fun hpos => ?_, fun hzero => ?_⟩
 ·have hcnt := W.cnt
  have hne : queue ≠ [] := by intro e; rw [e] at hpos; simp at hpos
  obtain ⟨init, u, rfl⟩ : ∃ init u, queue = init ++ [u] := ⟨queue.dropLast, queue.getLast hne, (List.dropLast_concat_getLast hne).symm⟩
  have hql : (((init ++ [u]).length : Nat) : Int) - 1 = (init.length : Int) := by simp
  have hw : IntKind.wrap .i64 (((init ++ [u]).length : Int) - 1) = (init.length : Int) := by
   rw [hql, wrap_id (by omega) (by simp at hcnt; omega)]
  have hg : gI (init ++ [u]) (init.length : Int) = some u := by rw [gI_nat]; simp
  have hsl : slI (init ++ [u]) 0 (init.length : Int) = init := by unfold slI; simp
  simp only [hw, ret_eq hg, hsl]
  refine ⟨fun _ => ?_, fun h => absurd h (by simp; omega)⟩
  have hu := W.qs u (by simp)
  obtain ⟨u0, u1, u2⟩ := gI_some hu
  have hdu : Dep s l u := by
   have := W.sound u.toNat u2
   rwa [Int.toNat_of_nonneg u0] at this
  obtain ⟨x, hx, hxl, hxr⟩ := hdu.edge hs hn
  have W1 : Wk s l (· = u) need init := ⟨W.len, W.sound, W.base, fun x hx => W.qs x (List.mem_append_left _ hx), fun v hv hq he t ht => W.closed v hv (fun h => by
   rcases List.mem_append.1 h with h | h
   ·exact hq h
   ·exact he (List.mem_singleton.1 h)) (fun h => h) t ht, by simp at hcnt; omega⟩
  simp only [ret_eq hx, wp, Sum.elim_inl, Sum.elim_inr, ne_eq, ge_iff_le, gt_iff_lt, reduceCtorEq, forall_const, Bool.true_eq_false, Bool.false_eq_true, implies_true]
  refine ⟨fun hwhy => ?_, fun hwhy => ?_⟩
  ·refine ⟨⟨need, init, rfl, W1.len, W1.sound, W1.base, W1.qs, fun v hv hq _ t ht => ?_, W1.cnt⟩, ?_⟩
   ·by_cases e : (v : Int) = u
    ·obtain ⟨x', _, _, _, _, _, hx', h0, _⟩ := ht
     rw [e, hx] at hx'; cases hx'
     exact absurd h0 hwhy
    ·exact W1.closed v hv hq e t ht
   ·show 2 * falses need + init.length < 2 * falses need + (init ++ [u]).length
    simp
  ·obtain ⟨y, hy, hym⟩ := gI_ok hxl.1 hxl.2
   obtain ⟨z, hz, hzm⟩ := gI_ok hxr.1 hxr.2
   simp only [ret_eq hy, ret_eq hz]
   have e28 := F28_eq s u hs (by omega)
   rw [show (s.1, s.2.1, s.2.2.1, s.2.2.2.1, s.2.2.2.2.1, s.2.2.2.2.2.1, s.2.2.2.2.2.2) = s from rfl, e28, ret_some]
   refine loop11_2 hs hn l hx hwhy hy hz hdu (hk y hym) (2 * falses need + (init ++ [u]).length) W1 (by simp) fun n' q' W' hM' => ⟨⟨n', q', rfl, W'⟩, hM'⟩
 ·have hnil : queue = [] := List.eq_nil_of_length_eq_zero (by omega)
  subst hnil
  refine Ret.mono (loop11_3 hs W.len) fun out _ ho => ⟨_, ho, fun t ht => ?_⟩
  constructor
  ·intro h
   exact W.sound t (by simpa using h)
  ·intro h
   have key : ∀ v, Dep s l v → gI need v = some true := by
    intro v hv
    induction hv with
    | base h1 h2 => exact W.base _ h1 h2
    | step h1 h2 ih =>
     obtain ⟨v0, v1, v2⟩ := gI_some ih
     refine W.closed _ v2 (by simp) (fun h => h) _ ?_
     rw [Int.toNat_of_nonneg v0]; exact h2
   have := key _ h
   rw [gI_nat] at this
   simpa using this
end
end Go.Dat
/-
 Dependencies as the reference computes them; ExplainPaths as a plain function.
-/
namespace Go.Dat
open Go.Eng
set_option linter.unusedSimpArgs false
set_option linter.unusedVariables false

/-- what the reference's set holds -/
structure Rf (s : SatT) (l : List Int) (t : Int) (b : List Bool) : Prop where
 len : b.length = s.2.1.length
 sound : ∀ u, gI b u = some true → EdgeOk s u → Dep s l u
 base : ∀ u, u ∈ l → EdgeOk s u → gI b u = some true
 closed : ∀ u, t < u → gI b u = some true → EdgeOk s u → ∀ v, Succ s u v → gI b v = some true
theorem gI_set_t {b : List Bool} {i u : Int} (h0 : 0 ≤ i) (h1 : i < b.length) (h : gI b u = some true) : gI (setI b i true) u = some true := by
 by_cases e : i = u
 ·subst e; exact gI_set true h0 h1
 ·rw [gI_set_ne _ h0 e]; exact h
theorem gI_set_inv {b : List Bool} {i u : Int} (h0 : 0 ≤ i) (h : gI (setI b i true) u = some true) : i = u ∨ gI b u = some true := by
 by_cases e : i = u
 ·exact .inl e
 ·rw [gI_set_ne _ h0 e] at h; exact .inr h
section
variable {s : SatT} (hs : s.2.1.length ≤ 400000) (hn : s.1.length ≤ 100000) (l : List Int)
include hs hn
/-- one operand pair of step t: between -/
structure Rk (s : SatT) (l : List Int) (t : Int) (y z : NodeT) (k : Nat) (b : List Bool) : Prop where
 rf : Rf s l t b
 me : gI b t = some true
 part : ∀ j p q, j < k → y.2.2[j]? = some p → z.2.2[j]? = some q → ∀ v ∈ (pth s p q t).1, gI b v = some true
theorem Rk.set {t : Int} {y z : NodeT} {k : Nat} {b : List Bool} (h : Rk s l t y z k b) {v : Int} (hv : Succ s t v) (hd : Dep s l t) : Rk s l t y z k (setI b v true) := by
 obtain ⟨he, hlt⟩ := hv.edge hs hn
 have v0 := he.lt
 have vl : v < b.length := by rw [h.rf.len]; exact v0.2
 refine ⟨⟨by rw [setI_len]; exact h.rf.len, fun u hu heu => ?_, fun u hu heu => gI_set_t v0.1 vl (h.rf.base u hu heu), fun u hu hb heu w hw => ?_⟩, gI_set_t v0.1 vl h.me, fun j p q hj hp hq w hw => gI_set_t v0.1 vl (h.part j p q hj hp hq w hw)⟩
 ·rcases gI_set_inv v0.1 hu with rfl | h'
  ·exact .step hd hv
  ·exact h.rf.sound u h' heu
 ·rcases gI_set_inv v0.1 hb with rfl | h'
  ·omega
  ·exact gI_set_t v0.1 vl (h.rf.closed u hu h' heu w hw)
theorem loop16_4 {t : Int} {y z : NodeT} {x : StepT} (hx : gI s.2.1 t = some x) (hw0 : x.2.2.1 = 0) (hy : gI s.1 x.1 = some y) (hz : gI s.1 x.2.1 = some z) (hd : Dep s l t) {k : Nat} {p q : Int} (hk : k ≤ 100000) (hp : y.2.2[k]? = some p) (hq : z.2.2[k]? = some q) {b : List Bool} (h : Rk s l t y z k b)
  {Q : (Int × List Bool) ⊕ ((List Bool) ⊕ ((Int × List Bool) ⊕ (List Int))) → Prop} (hQ : ∀ b', Rk s l t y z (k + 1) b' → Q (.inl (((k + 1 : Nat) : Int), b'))) :
  Ret (loopL (L16_4 (k : Int) (pth s p q t)) (0, b)) Q := by
 have hlen := says_len (pth_says s p q t hs hn)
 refine ret_loop (fun r : Int × List Bool => ∃ i : Nat, r.1 = i ∧ i ≤ (pth s p q t).1.length ∧ Rk s l t y z k r.2 ∧ ∀ j v, j < i → (pth s p q t).1[j]? = some v → gI r.2 v = some true) (fun r => (pth s p q t).1.length - r.1.toNat) ?_ _ ⟨0, rfl, by omega, h, fun j v hj => by omega⟩
 rintro ⟨i', b'⟩ ⟨i, e, hi, R, hall⟩
 dsimp only at e R hall
 subst e
 have hw := wrap_succ i (by omega)
 have hwk := wrap_succ k (by omega)
 simp only [L16_4, wp, Sum.elim_inl, Sum.elim_inr, ne_eq, ge_iff_le, gt_iff_lt, reduceCtorEq, forall_const, Bool.true_eq_false, Bool.false_eq_true, implies_true]
 refine ⟨fun hlt => ret_gI (by omega) hlt fun v hv hm => ?_, fun hge => ?_⟩
 ·obtain ⟨he, hvt⟩ := pth_mem hs hn hm
  have v0 := he.lt
  have vl : v < b'.length := by rw [R.rf.len]; exact v0.2
  have hsucc : Succ s t v := ⟨x, y, z, k, p, q, hx, hw0, hy, hz, hp, hq, hm⟩
  refine ret_gI v0.1 vl fun c hc _ => ?_
  simp only [ret_eq hc, hw]
  rw [gI_nat] at hv
  refine ⟨⟨i + 1, rfl, by omega, R.set hs hn l hsucc hd, fun j w hj hjw => ?_⟩, by omega⟩
  by_cases e : j < i
  ·exact gI_set_t v0.1 vl (hall j w e hjw)
  ·have : j = i := by omega
   subst this
   rw [hv] at hjw; cases hjw
   exact gI_set true v0.1 vl
 ·rw [hwk]
  refine hQ b' ⟨R.rf, R.me, fun j p' q' hj hp' hq' v hv => ?_⟩
  by_cases e : j < k
  ·exact R.part j p' q' e hp' hq' v hv
  ·have : j = k := by omega
   subst this
   rw [hp] at hp'; cases hp'
   rw [hq] at hq'; cases hq'
   obtain ⟨j, hj⟩ := List.getElem?_of_mem hv
   exact hall j v (by have := (List.getElem?_eq_some_iff.1 hj).1; omega) hj
theorem loop16_3 {t : Int} {y z : NodeT} {x : StepT} (hx : gI s.2.1 t = some x) (hw0 : x.2.2.1 = 0) (hy : gI s.1 x.1 = some y) (hz : gI s.1 x.2.1 = some z) (hd : Dep s l t) (hky : y.2.2.length ≤ 100000) {b : List Bool} (h : Rk s l t y z 0 b)
  {Q : (List Bool) ⊕ ((Int × List Bool) ⊕ (List Int)) → Prop} (hQ : ∀ b', Rf s l (t - 1) b' → Q (.inl b')) :
  Ret (loopL (L16_3 s t y z) (0, b)) Q := by
 refine ret_loop (fun r : Int × List Bool => ∃ k : Nat, r.1 = k ∧ k ≤ y.2.2.length ∧ Rk s l t y z k r.2) (fun r => y.2.2.length - r.1.toNat) ?_ _ ⟨0, rfl, by omega, h⟩
 rintro ⟨k', b'⟩ ⟨k, e, hk, R⟩
 dsimp only at e R
 subst e
 have stop : (∀ p q, y.2.2[k]? = some p → z.2.2[k]? = some q → False) → Q (.inl b') := fun hend => by
  refine hQ b' ⟨R.rf.len, R.rf.sound, R.rf.base, fun u hu hb heu v hv => ?_⟩
  by_cases e : t < u
  ·exact R.rf.closed u e hb heu v hv
  ·have : u = t := by omega
   subst this
   obtain ⟨x', y', z', j, p, q, hx', _, hy', hz', hp, hq', ht'⟩ := hv
   rw [hx] at hx'; cases hx'
   rw [hy] at hy'; cases hy'
   rw [hz] at hz'; cases hz'
   by_cases hjk : j < k
   ·exact R.part j p q hjk hp hq' v ht'
   ·exfalso
    have h1 := (List.getElem?_eq_some_iff.1 hp).1
    have h2 := (List.getElem?_eq_some_iff.1 hq').1
    exact hend _ _ (List.getElem?_eq_getElem (show k < y.2.2.length by omega)) (List.getElem?_eq_getElem (show k < z.2.2.length by omega))
 simp only [L16_3, wp, Sum.elim_inl, Sum.elim_inr, ne_eq, ge_iff_le, gt_iff_lt, reduceCtorEq, forall_const, Bool.true_eq_false, Bool.false_eq_true, implies_true]
 refine ⟨fun hlt => ?_, fun hge => ?_⟩
 ·by_cases hz2 : k < z.2.2.length
  ·rw [show decide ((k : Int) < (z.2.2.length : Int)) = true by simp; omega]
   obtain ⟨p, hp⟩ : ∃ p, y.2.2[k]? = some p := ⟨_, List.getElem?_eq_getElem (show k < y.2.2.length by omega)⟩
   obtain ⟨q, hq⟩ : ∃ q, z.2.2[k]? = some q := ⟨_, List.getElem?_eq_getElem hz2⟩
   have gp : gI y.2.2 (k : Int) = some p := by rw [gI_nat, hp]
   have gq : gI z.2.2 (k : Int) = some q := by rw [gI_nat, hq]
   simp only [J16_5, wp, Sum.elim_inl, Sum.elim_inr, ne_eq, ge_iff_le, gt_iff_lt, reduceCtorEq, forall_const, Bool.true_eq_false, Bool.false_eq_true, implies_true, ret_eq gp, ret_eq gq, F14_eq s p q t hs hn]
   refine loop16_4 hs hn l hx hw0 hy hz hd (by omega) hp hq R fun b'' R' => ⟨⟨k + 1, rfl, by omega, R'⟩, by show y.2.2.length - (((k + 1 : Nat) : Int)).toNat < y.2.2.length - ((k : Int)).toNat; omega⟩
  ·rw [show decide ((k : Int) < (z.2.2.length : Int)) = false by simp; omega]
   simp only [J16_5, wp, Sum.elim_inl, Sum.elim_inr, ne_eq, ge_iff_le, gt_iff_lt, reduceCtorEq, forall_const, Bool.true_eq_false, Bool.false_eq_true, implies_true]
   exact stop fun p q _ hq => by have := (List.getElem?_eq_some_iff.1 hq).1; omega
 ·simp only [J16_5, wp, Sum.elim_inl, Sum.elim_inr, ne_eq, ge_iff_le, gt_iff_lt, reduceCtorEq, forall_const, Bool.true_eq_false, Bool.false_eq_true, implies_true]
  exact stop fun p q hp _ => by have := (List.getElem?_eq_some_iff.1 hp).1; omega
theorem F16_ok (hl : l.length ≤ 9223372036854775807) (hk : ∀ x ∈ s.1, x.2.2.length ≤ 100000) : Ret (F16 s l) (DepQ s l) := by
 simp only [F16, wp, Sum.elim_inl, Sum.elim_inr, ne_eq, ge_iff_le, gt_iff_lt, reduceCtorEq, forall_const, Bool.true_eq_false, Bool.false_eq_true, implies_true]
 refine ⟨fun _ => ?_, fun h => absurd h (by omega)⟩
 have hrep : (List.replicate (Int.toNat (s.2.1.length : Int)) false).length = s.2.1.length := by simp
 have rep_f : ∀ u : Int, gI (List.replicate (Int.toNat (s.2.1.length : Int)) false) u ≠ some true := fun u h => by
  have := (gI_some h).2.2
  rw [List.getElem?_replicate] at this
  split at this <;> cases this
 refine ret_loop (fun q : Int × List Bool => ∃ i : Nat, q.1 = i ∧ i ≤ l.length ∧ q.2.length = s.2.1.length ∧ (∀ u, gI q.2 u = some true → u ∈ l) ∧ ∀ j u, j < i → l[j]? = some u → EdgeOk s u → gI q.2 u = some true) (fun q => l.length - q.1.toNat) ?_ _ ⟨0, rfl, by omega, hrep, fun u h => absurd h (rep_f u), fun j u hj => by omega⟩
 rintro ⟨i', b⟩ ⟨i, e, hi, hlen, hsub, hhas⟩
 dsimp only at e hlen hsub hhas
 subst e
 simp only [L16_1, wp, Sum.elim_inl, Sum.elim_inr, ne_eq, ge_iff_le, gt_iff_lt, reduceCtorEq, forall_const, Bool.true_eq_false, Bool.false_eq_true, implies_true]
 refine ⟨fun hlt => ret_gI (by omega) hlt fun u hu hum => ?_, fun hge => ?_⟩
 ·have hw := wrap_succ i (by omega)
  have hu' := hu
  rw [gI_nat] at hu'
  have skip : (EdgeOk s u → False) → Ret (J16_2 l (i : Int) (false, b)) fun a => Ret (Sum.elim (J16_1 (i : Int)) some a) (StepQ (fun q : Int × List Bool => ∃ i : Nat, q.1 = i ∧ i ≤ l.length ∧ q.2.length = s.2.1.length ∧ (∀ u, gI q.2 u = some true → u ∈ l) ∧ ∀ j u, j < i → l[j]? = some u → EdgeOk s u → gI q.2 u = some true) (fun q => l.length - q.1.toNat) (DepQ s l) ((i : Int), b)) := fun hno => by
   simp only [J16_2, J16_1, wp, Sum.elim_inl, Sum.elim_inr, ne_eq, ge_iff_le, gt_iff_lt, reduceCtorEq, forall_const, Bool.true_eq_false, Bool.false_eq_true, implies_true, hw]
   refine ⟨⟨i + 1, rfl, by omega, hlen, hsub, fun j v hj hv he => ?_⟩, by omega⟩
   by_cases e : j < i
   ·exact hhas j v e hv he
   ·have : j = i := by omega
    subst this
    rw [hu'] at hv; cases hv
    exact absurd he hno
  refine ⟨fun h0 => ?_, fun h0 => skip fun he => by have := he.lt; omega⟩
  rw [ret_eq hu]
  by_cases h1 : u < (b.length : Int)
  ·simp only [h1, J16_2, wp, Sum.elim_inl, Sum.elim_inr, ne_eq, ge_iff_le, gt_iff_lt, reduceCtorEq, forall_const, Bool.true_eq_false, Bool.false_eq_true, implies_true, ret_eq hu]
   refine ret_gI h0 h1 fun c hc _ => ?_
   simp only [ret_eq hc, J16_1, wp, Sum.elim_inl, Sum.elim_inr, ne_eq, ge_iff_le, gt_iff_lt, reduceCtorEq, forall_const, Bool.true_eq_false, Bool.false_eq_true, implies_true, hw]
   refine ⟨⟨i + 1, rfl, by omega, by rw [setI_len]; exact hlen, fun v hv => ?_, fun j v hj hv he => ?_⟩, by omega⟩
   ·rcases gI_set_inv h0 hv with rfl | h
    ·exact hum
    ·exact hsub v h
   ·by_cases e : j < i
    ·exact gI_set_t h0 h1 (hhas j v e hv he)
    ·have : j = i := by omega
     subst this
     rw [hu'] at hv; cases hv
     exact gI_set true h0 h1
  ·rw [show decide (u < (b.length : Int)) = false by simp; omega]
   exact skip fun he => by have := he.lt; omega
 ·have hil : i = l.length := by omega
  rw [wrap_id (by omega) (by omega)]
  have R0 : Rf s l ((b.length : Int) - 1) b := by
   refine ⟨hlen, fun u hu he => .base (hsub u hu) he, fun u hu he => ?_, fun u hu hb he => ?_⟩
   ·obtain ⟨j, hj⟩ := List.getElem?_of_mem hu
    exact hhas j u (by have := (List.getElem?_eq_some_iff.1 hj).1; omega) hj he
   ·have := he.lt; omega
  refine ret_loop (fun q : Int × List Bool => -1 ≤ q.1 ∧ q.1 < s.2.1.length ∧ Rf s l q.1 q.2) (fun q => (q.1 + 1).toNat) ?_ _ ⟨by dsimp only; omega, by dsimp only; omega, R0⟩
  rintro ⟨t, b⟩ ⟨t0, t1, R⟩
  dsimp only at t0 t1 R
  have hbl := R.len
  simp only [L16_2, wp, Sum.elim_inl, Sum.elim_inr, ne_eq, ge_iff_le, gt_iff_lt, reduceCtorEq, forall_const, Bool.true_eq_false, Bool.false_eq_true, implies_true]
  refine ⟨fun hge => ret_gI hge t1 fun x hx _ => ret_gI hge (by omega) fun c hc _ => ?_, fun hlt => ?_⟩
  ·have done : ∀ b', Rf s l (t - 1) b' → Ret (J16_3 t b') (StepQ (fun q : Int × List Bool => -1 ≤ q.1 ∧ q.1 < s.2.1.length ∧ Rf s l q.1 q.2) (fun q => (q.1 + 1).toNat) (DepQ s l) (t, b)) := fun b' R' => by
    simp only [J16_3, wp, Sum.elim_inl, Sum.elim_inr, ne_eq, ge_iff_le, gt_iff_lt, reduceCtorEq, forall_const, Bool.true_eq_false, Bool.false_eq_true, implies_true, wrap_id (n := t - 1) (by omega) (by omega)]
    exact ⟨⟨by omega, by omega, R'⟩, by omega⟩
   have skip : (gI b t = some true → EdgeOk s t → ∀ v, Succ s t v → False) → Ret (J16_4 s t x (true, b)) fun a => Ret (Sum.elim (J16_3 t) some a) (StepQ (fun q : Int × List Bool => -1 ≤ q.1 ∧ q.1 < s.2.1.length ∧ Rf s l q.1 q.2) (fun q => (q.1 + 1).toNat) (DepQ s l) (t, b)) := fun hno => by
    simp only [J16_4, wp, Sum.elim_inl, Sum.elim_inr, ne_eq, ge_iff_le, gt_iff_lt, reduceCtorEq, forall_const, Bool.true_eq_false, Bool.false_eq_true, implies_true]
    refine done b ⟨R.len, R.sound, R.base, fun u hu hb he v hv => ?_⟩
    by_cases e : t < u
    ·exact R.closed u e hb he v hv
    ·have : u = t := by omega
     subst this
     exact absurd hv (fun h => hno hb he v h)
   simp only [ret_eq hc, F41_eq]
   refine ⟨fun hcf => skip (fun hb => by rw [hc, hcf] at hb; cases hb), fun hct => ⟨fun hwhy => skip fun _ _ v hv => ?_, fun hwhy => ?_⟩⟩
   ·obtain ⟨x', _, _, _, _, _, hx', h0, _⟩ := hv
    rw [hx] at hx'; cases hx'
    exact hwhy h0
   ·simp only [wp, Sum.elim_inl, Sum.elim_inr, ne_eq, ge_iff_le, gt_iff_lt, reduceCtorEq, forall_const, Bool.true_eq_false, Bool.false_eq_true, implies_true]
    by_cases hed : inR s.1.length x.1 ∧ inR s.1.length x.2.1
    ·rw [show decide (inR s.1.length x.1 ∧ inR s.1.length x.2.1) = true by simp [hed]]
     obtain ⟨y, hy, hym⟩ := gI_ok hed.1.1 hed.1.2
     obtain ⟨z, hz, hzm⟩ := gI_ok hed.2.1 hed.2.2
     have het : EdgeOk s t := ⟨x, hx, hed.1, hed.2⟩
     have hbt : gI b t = some true := by rw [hc, hct]
     simp only [J16_4, wp, Sum.elim_inl, Sum.elim_inr, ne_eq, ge_iff_le, gt_iff_lt, reduceCtorEq, forall_const, Bool.true_eq_false, Bool.false_eq_true, implies_true, ret_eq hy, ret_eq hz]
     exact loop16_3 hs hn l hx hwhy hy hz (R.sound t hbt het) (hk y hym) ⟨R, hbt, fun j p q hj => by omega⟩ fun b' R' => done b' R'
    ·rw [show decide (inR s.1.length x.1 ∧ inR s.1.length x.2.1) = false by simp; intro h; exact fun h' => hed ⟨h, h'⟩]
     exact skip fun _ he v _ => by
      obtain ⟨x', hx', h1, h2⟩ := he
      rw [hx] at hx'; cases hx'
      exact hed ⟨h1, h2⟩
  ·have ht : t = -1 := by omega
   subst ht
   have key : ∀ v, Dep s l v → gI b v = some true := by
    intro v hv
    induction hv with
    | base h1 h2 => exact R.base _ h1 h2
    | step h1 h2 ih =>
     have := h1.edge hs hn
     exact R.closed _ (by have := this.lt; omega) ih this _ h2
   have fin : Ret (loopL (L16_5 s) (0, b, [])) fun out => out = idxs s.2.1.length fun t => b[t]? == some true && (match s.2.1[t]? with | some x => decide (inR s.1.length x.1 ∧ inR s.1.length x.2.1) | none => false) := by
    refine ret_loop (fun q : Int × List Bool × List Int => ∃ i : Nat, q.1 = i ∧ i ≤ s.2.1.length ∧ q.2.1 = b ∧ q.2.2 = idxs i (fun t => b[t]? == some true && (match s.2.1[t]? with | some x => decide (inR s.1.length x.1 ∧ inR s.1.length x.2.1) | none => false))) (fun q => s.2.1.length - q.1.toNat) ?_ _ ⟨0, rfl, by omega, rfl, rfl⟩
    rintro ⟨i', b', out⟩ ⟨i, e1, hi, e2, e3⟩
    dsimp only at e1 e2 e3
    subst e1 e2 e3
    simp only [L16_5, wp, Sum.elim_inl, Sum.elim_inr, ne_eq, ge_iff_le, gt_iff_lt, reduceCtorEq, forall_const, Bool.true_eq_false, Bool.false_eq_true, implies_true, hbl]
    refine ⟨fun hlt => ret_gI (by omega) (by omega) fun c hc _ => ?_, fun hge => ?_⟩
    ·have hw := wrap_succ i (by omega)
     have hlen := idxs_len i fun t => b'[t]? == some true && (match s.2.1[t]? with | some x => decide (inR s.1.length x.1 ∧ inR s.1.length x.2.1) | none => false)
     have hil : i < s.2.1.length := by omega
     have hx : s.2.1[i]? = some s.2.1[i] := List.getElem?_eq_getElem hil
     have hg : gI s.2.1 (i : Int) = some s.2.1[i] := by rw [gI_nat, hx]
     generalize s.2.1[i] = x at hx hg
     have hc' := hc
     rw [gI_nat] at hc'
     simp only [ret_eq hc, ret_eq hg, F41_eq, J16_6, J16_7, wp, Sum.elim_inl, Sum.elim_inr, ne_eq, ge_iff_le, gt_iff_lt, reduceCtorEq, forall_const, Bool.true_eq_false, Bool.false_eq_true, implies_true, hw]
     refine ⟨fun hct => ⟨fun hin => ⟨fun _ => ?_, fun h => absurd h (by simp only [List.length_cons, List.length_nil]; omega)⟩, fun hno => ?_⟩, fun hcf => ?_⟩
     ·refine ⟨⟨i + 1, rfl, by omega, ?_⟩, by omega⟩
      rw [idxs_succ, hc', hct, hx]; simp [hin]
     ·refine ⟨⟨i + 1, rfl, by omega, ?_⟩, by omega⟩
      rw [idxs_succ, hc', hct, hx]; simp [hno]
     ·refine ⟨⟨i + 1, rfl, by omega, ?_⟩, by omega⟩
      rw [idxs_succ, hc', hcf]; simp
    ·have : i = s.2.1.length := by omega
     rw [this]
   refine Ret.mono fin fun out _ ho => ⟨_, ho, fun t ht => ?_⟩
   have hx : s.2.1[t]? = some s.2.1[t] := List.getElem?_eq_getElem ht
   generalize s.2.1[t] = x at hx
   rw [hx]
   simp only [Bool.and_eq_true, beq_iff_eq, decide_eq_true_eq]
   constructor
   ·rintro ⟨h1, h2⟩
    exact R.sound _ (by rw [gI_nat]; exact h1) ⟨x, by rw [gI_nat]; exact hx, h2.1, h2.2⟩
   ·intro h
    have h1 := key _ h
    rw [gI_nat] at h1
    obtain ⟨x', hx', h2, h3⟩ := h.edge hs hn
    rw [gI_nat, hx] at hx'; cases hx'
    exact ⟨h1, h2, h3⟩
end

/-! the law -/
end Go.Dat
