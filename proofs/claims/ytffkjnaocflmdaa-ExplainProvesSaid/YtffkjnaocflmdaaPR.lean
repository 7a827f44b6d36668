/-
 What is marked: the nodes that are reached.
-/
import Derived.Test.YtffkjnaocflmdaaPQ
namespace Go.Dat
open Go.Eng
set_option linter.unusedSimpArgs false
set_option linter.unusedVariables false

inductive Mk (l : List NodeT) (S : Int → Prop) : Int → Prop
 | base {i : Int} : S i → inR l.length i → Mk l S i
 | kid {i k : Int} {n : NodeT} : Mk l S i → gI l i = some n → k ∈ n.2.2 → inR l.length k → Mk l S k
theorem Mk.inr {l : List NodeT} {S : Int → Prop} {i : Int} (h : Mk l S i) : inR l.length i := by
 cases h with
 | base _ h => exact h
 | kid _ _ _ h => exact h
theorem Mk.up {l : List NodeT} {S S' : Int → Prop} (hS : ∀ j, inR l.length j → S j → Mk l S' j) {i : Int} (h : Mk l S i) : Mk l S' i := by
 induction h with
 | base h1 h2 => exact hS _ h2 h1
 | kid _ h1 h2 h3 ih => exact .kid ih h1 h2 h3
structure MkQ (l : List NodeT) (S : Int → Prop) (b : List Bool) : Prop where
 len : b.length = l.length
 iff : ∀ j, gI b j = some true ↔ Mk l S j
theorem MkQ.congr {l : List NodeT} {S S' : Int → Prop} {b : List Bool} (h : MkQ l S b) (hS : ∀ j, inR l.length j → (S j ↔ S' j)) : MkQ l S' b :=
 ⟨h.len, fun j => (h.iff j).trans ⟨Mk.up fun j hj hs => .base ((hS j hj).1 hs) hj, Mk.up fun j hj hs => .base ((hS j hj).2 hs) hj⟩⟩
theorem MkQ.uniq {l : List NodeT} {S : Int → Prop} {b b' : List Bool} (h : MkQ l S b) (h' : MkQ l S b') : b = b' := by
 apply List.ext_getElem?
 intro i
 by_cases hi : i < l.length
 ·have e1 : b[i]? = some (b[i]'(by rw [h.len]; exact hi)) := List.getElem?_eq_getElem _
  have e2 : b'[i]? = some (b'[i]'(by rw [h'.len]; exact hi)) := List.getElem?_eq_getElem _
  have k1 := h.iff (i : Int)
  have k2 := h'.iff (i : Int)
  rw [gI_nat, e1] at k1
  rw [gI_nat, e2] at k2
  rw [e1, e2]
  generalize b[i]'(by rw [h.len]; exact hi) = x at *
  generalize b'[i]'(by rw [h'.len]; exact hi) = y at *
  have : (some x = some true) ↔ (some y = some true) := k1.trans k2.symm
  cases x <;> cases y <;> simp_all
 ·rw [List.getElem?_eq_none (by rw [h.len]; omega), List.getElem?_eq_none (by rw [h'.len]; omega)]
theorem gI_set_t' {b : List Bool} {i u : Int} (h0 : 0 ≤ i) (h1 : i < b.length) (h : gI b u = some true) : gI (setI b i true) u = some true := by
 by_cases e : i = u
 ·subst e; exact gI_set true h0 h1
 ·rw [gI_set_ne _ h0 e]; exact h
theorem gI_set_inv' {b : List Bool} {i u : Int} (h0 : 0 ≤ i) (h : gI (setI b i true) u = some true) : i = u ∨ gI b u = some true := by
 by_cases e : i = u
 ·exact .inl e
 ·rw [gI_set_ne _ h0 e] at h; exact .inr h
structure Small (l : List NodeT) : Prop where
 n : l.length ≤ 1000
 k : ∀ x ∈ l, x.2.2.length ≤ 100
structure Mg (l : List NodeT) (S : Int → Prop) (b : List Bool) (i : Int) (q : List Bool × List Int) : Prop where
 len : q.1.length = l.length
 sound : ∀ j, gI q.1 j = some true → Mk l (fun j => S j ∨ j = i) j
 ss : ∀ x ∈ q.2, inR l.length x → Mk l (fun j => S j ∨ j = i) x
 mono : ∀ j, gI b j = some true → gI q.1 j = some true
 closed : ∀ j n k, gI q.1 j = some true → gI l j = some n → k ∈ n.2.2 → inR l.length k → gI q.1 k = some true ∨ k ∈ q.2
 start : inR l.length i → gI q.1 i = some true ∨ i ∈ q.2
 cnt : q.2.length + 100 * falses q.1 ≤ 100 * l.length + 1
theorem falses_le : ∀ l : List Bool, falses l ≤ l.length
 | [] => Nat.le_refl _
 | x :: l => by have := falses_le l; simp only [falses, List.length_cons]; cases x <;> simp <;> omega
theorem F29_ok {l : List NodeT} (hl : Small l) {S : Int → Prop} {b : List Bool} (h : MkQ l S b) (i : Int) : Ret (F29 l i b) (MkQ l fun j => S j ∨ j = i) := by
 unfold F29
 have upS : ∀ j, Mk l S j → Mk l (fun j => S j ∨ j = i) j := fun j hj => Mk.up (fun j hj hs => .base (.inl hs) hj) hj
 have hf := falses_le b
 have hN := hl.n
 refine ret_loop (Mg l S b i) (fun q => 101 * falses q.1 + q.2.length) ?_ _ ⟨h.len, fun j hj => upS j ((h.iff j).1 hj), fun x hx hr => by rw [List.mem_singleton.1 hx] at hr ⊢; exact .base (.inr rfl) hr, fun j hj => hj, fun j n k hj hn hk hr => .inl ((h.iff k).2 (.kid ((h.iff j).1 hj) hn hk hr)), fun _ => .inr (by simp), by rw [h.len] at hf; simp; omega⟩
 rintro ⟨c, st⟩ M
 have hcl := M.len
 have hcnt := M.cnt
 dsimp only at hcl hcnt
 simp only [L29_1, wp, Sum.elim_inl, Sum.elim_inr, ne_eq, ge_iff_le, gt_iff_lt, reduceCtorEq, forall_const, Bool.true_eq_false, Bool.false_eq_true, implies_true]
 refine ⟨fun hpos => ?_, fun hz => ?_⟩
 ·have hne : st ≠ [] := by intro e; rw [e] at hpos; simp at hpos
  obtain ⟨init, u, rfl⟩ : ∃ init u, st = init ++ [u] := ⟨st.dropLast, st.getLast hne, (List.dropLast_concat_getLast hne).symm⟩
  have hw : IntKind.wrap .i64 (((init ++ [u]).length : Int) - 1) = (init.length : Int) := by
   rw [show (((init ++ [u]).length : Nat) : Int) - 1 = (init.length : Int) by simp, wrap_id (by omega) (by simp at hcnt; omega)]
  have hg : gI (init ++ [u]) (init.length : Int) = some u := by rw [gI_nat]; simp
  have hsl : slI (init ++ [u]) 0 (init.length : Int) = init := by unfold slI; simp
  have hil : init.length + 1 + 100 * falses c ≤ 100 * l.length + 1 := by simp at hcnt; omega
  -- a popped element that needs nothing
  have skip : (inR l.length u → gI c u = some true) → Ret (J29_1 l u (true, c, init)) (StepQ (Mg l S b i) (fun q => 101 * falses q.1 + q.2.length) (MkQ l fun j => S j ∨ j = i) (c, init ++ [u])) := fun hu => by
   simp only [J29_1, wp, Sum.elim_inl, Sum.elim_inr, ne_eq, ge_iff_le, gt_iff_lt, reduceCtorEq, forall_const, Bool.true_eq_false, Bool.false_eq_true, implies_true]
   refine ⟨⟨M.len, M.sound, fun x hx => M.ss x (List.mem_append_left _ hx), M.mono, fun j n k hj hn hk hr => ?_, fun hr => ?_, by dsimp only; omega⟩, by simp⟩
   ·rcases M.closed j n k hj hn hk hr with h1 | h1
    ·exact .inl h1
    ·rcases List.mem_append.1 h1 with h1 | h1
     ·exact .inr h1
     ·rw [List.mem_singleton.1 h1] at hr ⊢; exact .inl (hu hr)
   ·rcases M.start hr with h1 | h1
    ·exact .inl h1
    ·rcases List.mem_append.1 h1 with h1 | h1
     ·exact .inr h1
     ·have e := List.mem_singleton.1 h1
      subst e; exact .inl (hu hr)
  simp only [hw, ret_eq hg, hsl, F26_eq]
  refine ⟨fun _ => ?_, fun h => absurd h (by simp; omega)⟩
  simp only [wp, Sum.elim_inl, Sum.elim_inr, ne_eq, ge_iff_le, gt_iff_lt, reduceCtorEq, forall_const, Bool.true_eq_false, Bool.false_eq_true, implies_true]
  refine ⟨fun hno => skip fun h => absurd h hno, fun hu => ?_⟩
  refine ret_gI hu.1 (by rw [hcl]; exact hu.2) fun v hv _ => ?_
  simp only [ret_eq hv]
  cases v with
  | true => exact skip fun _ => hv
  | false =>
   obtain ⟨n, hn, hnm⟩ := gI_ok hu.1 hu.2
   have hk := hl.k n hnm
   have hfs := falses_set c u.toNat (gI_some hv).2.2
   have hfs' : falses (setI c u true) + 1 = falses c := hfs
   simp only [J29_1, wp, Sum.elim_inl, Sum.elim_inr, ne_eq, ge_iff_le, gt_iff_lt, reduceCtorEq, forall_const, Bool.true_eq_false, Bool.false_eq_true, implies_true, ret_eq hv, ret_eq hn]
   refine ⟨fun _ => ?_, fun h => absurd h (by omega)⟩
   have hul : u < c.length := by rw [hcl]; exact hu.2
   have hus := M.ss u (by simp) hu
   refine ⟨⟨by rw [setI_len]; exact M.len, fun j hj => ?_, fun x hx hr => ?_, fun j hj => gI_set_t' hu.1 hul (M.mono j hj), fun j m k hj hm hkm hr => ?_, fun hr => ?_, by simp only [List.length_append]; omega⟩, by simp only [List.length_append, List.length_cons, List.length_nil]; omega⟩
   ·rcases gI_set_inv' hu.1 hj with rfl | h1
    ·exact hus
    ·exact M.sound j h1
   ·rcases List.mem_append.1 hx with hx | hx
    ·exact M.ss x (List.mem_append_left _ hx) hr
    ·exact .kid hus hn hx hr
   ·rcases gI_set_inv' hu.1 hj with rfl | h1
    ·rw [hn] at hm; cases hm
     exact .inr (List.mem_append_right _ hkm)
    ·rcases M.closed j m k h1 hm hkm hr with h2 | h2
     ·exact .inl (gI_set_t' hu.1 hul h2)
     ·rcases List.mem_append.1 h2 with h2 | h2
      ·exact .inr (List.mem_append_left _ h2)
      ·rw [List.mem_singleton.1 h2]; exact .inl (gI_set true hu.1 hul)
   ·rcases M.start hr with h2 | h2
    ·exact .inl (gI_set_t' hu.1 hul h2)
    ·rcases List.mem_append.1 h2 with h2 | h2
     ·exact .inr (List.mem_append_left _ h2)
     ·have e := List.mem_singleton.1 h2
      subst e; exact .inl (gI_set true hu.1 hul)
 ·have hnil : st = [] := List.eq_nil_of_length_eq_zero (by omega)
  subst hnil
  refine ⟨M.len, fun j => ⟨M.sound j, fun hj => ?_⟩⟩
  induction hj with
  | base h1 h2 =>
   rcases h1 with h1 | rfl
   ·exact M.mono _ ((h.iff _).2 (.base h1 h2))
   ·rcases M.start h2 with h3 | h3
    ·exact h3
    ·cases h3
  | kid _ h1 h2 h3 ih =>
   rcases M.closed _ _ _ ih h1 h2 h3 with h4 | h4
   ·exact h4
   ·cases h4

/-- the nodes that steps speak of -/
def StS (s : SatT) (steps : List Int) (j : Int) : Prop := ∃ t ∈ steps, ∃ x, gI s.2.1 t = some x ∧ (j = x.1 ∨ j = x.2.1 ∨ j ∈ x.2.2.2.1)
theorem F30_ok {s : SatT} (hl : Small s.1) (hv : ∀ x ∈ s.2.1, x.2.2.2.1.length ≤ 1000) {S : Int → Prop} {b : List Bool} (h : MkQ s.1 S b) (steps : List Int) (hs : ∀ t ∈ steps, EdgeOk s t) (hsl : steps.length ≤ 1000000) :
  Ret (F30 s.1 s.2.1 s.2.2.1 s.2.2.2.1 s.2.2.2.2.1 s.2.2.2.2.2.1 s.2.2.2.2.2.2 steps b) (MkQ s.1 fun j => S j ∨ StS s steps j) := by
 unfold F30
 refine ret_loop (fun q : Int × List Bool => ∃ i : Nat, q.1 = i ∧ i ≤ steps.length ∧ MkQ s.1 (fun j => S j ∨ StS s (steps.take i) j) q.2) (fun q => steps.length - q.1.toNat) ?_ _ ⟨0, rfl, by omega, h.congr fun j _ => ⟨.inl, fun h => h.elim id fun ⟨t, ht, _⟩ => absurd ht (by simp)⟩⟩
 rintro ⟨i', c⟩ ⟨i, e, hi, M⟩
 dsimp only at e M
 subst e
 simp only [L30_1, wp, Sum.elim_inl, Sum.elim_inr, ne_eq, ge_iff_le, gt_iff_lt, reduceCtorEq, forall_const, Bool.true_eq_false, Bool.false_eq_true, implies_true]
 refine ⟨fun hlt => ret_gI (by omega) hlt fun t ht htm => ?_, fun hge => ?_⟩
 ·obtain ⟨x, hx, _, _⟩ := hs t htm
  have hxm := gI_mem hx
  have hxv := hv x hxm
  have ht' := ht
  rw [gI_nat] at ht'
  have htake : steps.take (i + 1) = steps.take i ++ [t] := by rw [List.take_add_one, ht']; rfl
  simp only [ret_eq hx]
  have hw := wrap_succ i (by omega)
  refine Ret.mono (F29_ok hl M x.1) fun c1 _ M1 => Ret.mono (F29_ok hl M1 x.2.1) fun c2 _ M2 => ?_
  refine ret_loop (fun q : Int × List Bool => ∃ k : Nat, q.1 = k ∧ k ≤ x.2.2.2.1.length ∧ MkQ s.1 (fun j => ((S j ∨ StS s (steps.take i) j) ∨ j = x.1) ∨ j = x.2.1 ∨ j ∈ x.2.2.2.1.take k) q.2) (fun q => x.2.2.2.1.length - q.1.toNat) ?_ _ ⟨0, rfl, by omega, M2.congr fun j _ => by simp⟩
  rintro ⟨k', c3⟩ ⟨k, e, hk, M3⟩
  dsimp only at e M3
  subst e
  simp only [L30_2, wp, Sum.elim_inl, Sum.elim_inr, ne_eq, ge_iff_le, gt_iff_lt, reduceCtorEq, forall_const, Bool.true_eq_false, Bool.false_eq_true, implies_true]
  refine ⟨fun hlt => ret_gI (by omega) hlt fun y hy _ => ?_, fun hge => ?_⟩
  ·rw [gI_nat] at hy
   have hwk := wrap_succ k (by omega)
   refine Ret.mono (F29_ok hl M3 y) fun c4 _ M4 => ?_
   rw [hwk]
   have hty : x.2.2.2.1.take (k + 1) = x.2.2.2.1.take k ++ [y] := by rw [List.take_add_one, hy]; rfl
   refine ⟨⟨k + 1, rfl, by omega, M4.congr fun j _ => ?_⟩, by omega⟩
   rw [hty]
   simp only [List.mem_append, List.mem_singleton]
   constructor
   ·rintro ((h | h | h) | h)
    ·exact .inl h
    ·exact .inr (.inl h)
    ·exact .inr (.inr (.inl h))
    ·exact .inr (.inr (.inr h))
   ·rintro (h | h | h | h)
    ·exact .inl (.inl h)
    ·exact .inl (.inr (.inl h))
    ·exact .inl (.inr (.inr h))
    ·exact .inr h
  ·have : k = x.2.2.2.1.length := by omega
   subst this
   rw [List.take_length] at M3
   rw [hw]
   refine ⟨⟨i + 1, rfl, by omega, M3.congr fun j _ => ?_⟩, by show steps.length - (((i + 1 : Nat) : Int)).toNat < steps.length - ((i : Int)).toNat; omega⟩
   rw [htake]
   constructor
   ·rintro (((h | ⟨t', h1, h2⟩) | h) | h | h)
    ·exact .inl h
    ·exact .inr ⟨t', List.mem_append_left _ h1, h2⟩
    ·exact .inr ⟨t, by simp, x, hx, .inl h⟩
    ·exact .inr ⟨t, by simp, x, hx, .inr (.inl h)⟩
    ·exact .inr ⟨t, by simp, x, hx, .inr (.inr h)⟩
   ·rintro (h | ⟨t', h1, x', h2, h3⟩)
    ·exact .inl (.inl (.inl h))
    ·rcases List.mem_append.1 h1 with h1 | h1
     ·exact .inl (.inl (.inr ⟨t', h1, x', h2, h3⟩))
     ·rw [List.mem_singleton.1 h1, hx] at h2
      cases h2
      rcases h3 with h3 | h3 | h3
      ·exact .inl (.inr h3)
      ·exact .inr (.inl h3)
      ·exact .inr (.inr h3)
 ·have : i = steps.length := by omega
  subst this
  rw [List.take_length] at M
  exact M

/-! the reference -/
theorem F55_ok {l : List NodeT} (hl : Small l) {b : List Bool} (hb : b.length = l.length) : Ret (F55 l b) (MkQ l fun j => gI b j = some true) := by
 unfold F55
 have hN := hl.n
 let S : Int → Prop := fun j => gI b j = some true
 let Cl : List Bool → Int → Prop := fun c i => gI c i = some true → ∀ n, gI l i = some n → ∀ k ∈ n.2.2, inR l.length k → gI c k = some true
 let B : List Bool → Prop := fun c => c.length = l.length ∧ (∀ j, gI c j = some true → Mk l S j) ∧ ∀ j, gI b j = some true → gI c j = some true
 have B0 : B b := ⟨hb, fun j hj => .base hj (by have := gI_some hj; exact ⟨this.1, by omega⟩), fun j hj => hj⟩
 refine ret_loop (fun q : Bool × List Bool => B q.2 ∧ (q.1 = false → ∀ i : Nat, i < l.length → Cl q.2 (i : Int))) (fun q => 2 * falses q.2 + (if q.1 then 1 else 0)) ?_ _ ⟨B0, fun h => (by cases h)⟩
 rintro ⟨more, c⟩ ⟨hB, hcl⟩
 dsimp only at hB hcl
 simp only [L55_1, wp, Sum.elim_inl, Sum.elim_inr, ne_eq, ge_iff_le, gt_iff_lt, reduceCtorEq, forall_const, Bool.true_eq_false, Bool.false_eq_true, implies_true]
 refine ⟨fun hm => ?_, fun hm => ?_⟩
 ·subst hm
  -- one pass
  refine ret_loop (fun q : Bool × Int × List Bool => ∃ i : Nat, q.2.1 = i ∧ i ≤ l.length ∧ B q.2.2 ∧ (q.1 = true → falses q.2.2 < falses c) ∧ (q.1 = false → q.2.2 = c ∧ ∀ i' : Nat, i' < i → Cl c (i' : Int))) (fun q => l.length - q.2.1.toNat) ?_ _ ⟨0, rfl, by omega, hB, fun h => (by cases h), fun _ => ⟨rfl, fun i' h => by omega⟩⟩
  rintro ⟨m, i', c1⟩ ⟨i, e, hi, hB1, hy1, hn1⟩
  dsimp only at e hB1 hy1 hn1
  subst e
  simp only [L55_2, wp, Sum.elim_inl, Sum.elim_inr, ne_eq, ge_iff_le, gt_iff_lt, reduceCtorEq, forall_const, Bool.true_eq_false, Bool.false_eq_true, implies_true]
  refine ⟨fun hlt => ?_, fun hge => ?_⟩
  ·have hw := wrap_succ i (by omega)
   obtain ⟨n, hn, hnm⟩ := gI_ok (l := l) (i := (i : Int)) (by omega) hlt
   have hk := hl.k n hnm
   refine ret_loop (fun q : Bool × Int × List Bool => ∃ k : Nat, q.2.1 = k ∧ k ≤ n.2.2.length ∧ B q.2.2 ∧ (q.1 = true → falses q.2.2 < falses c) ∧ (q.1 = false → q.2.2 = c ∧ (∀ i' : Nat, i' < i → Cl c (i' : Int)) ∧ ∀ (j : Nat) y, j < k → n.2.2[j]? = some y → inR l.length y → gI c y = some true)) (fun q => n.2.2.length - q.2.1.toNat) ?_ _ ⟨0, rfl, by omega, hB1, hy1, fun h => ⟨(hn1 h).1, (hn1 h).2, fun j y hj => by omega⟩⟩
   rintro ⟨m2, k', c2⟩ ⟨k, e, hkk, hB2, hy2, hn2⟩
   dsimp only at e hB2 hy2 hn2
   subst e
   have hc2 := hB2.1
   have fin : (m2 = false → Cl c (i : Int)) → StepQ (fun q : Bool × Int × List Bool => ∃ i : Nat, q.2.1 = i ∧ i ≤ l.length ∧ B q.2.2 ∧ (q.1 = true → falses q.2.2 < falses c) ∧ (q.1 = false → q.2.2 = c ∧ ∀ i' : Nat, i' < i → Cl c (i' : Int))) (fun q => l.length - q.2.1.toNat) (StepQ (fun q : Bool × List Bool => B q.2 ∧ (q.1 = false → ∀ i : Nat, i < l.length → Cl q.2 (i : Int))) (fun q => 2 * falses q.2 + (if q.1 then 1 else 0)) (MkQ l fun j => gI b j = some true) (true, c)) (m, (i : Int), c1) (.inl (m2, ((i + 1 : Nat) : Int), c2)) := fun hcl' => by
    refine ⟨⟨i + 1, rfl, by omega, hB2, hy2, fun h => ⟨(hn2 h).1, fun i' hi' => ?_⟩⟩, by dsimp only; omega⟩
    by_cases e : i' < i
    ·exact (hn2 h).2.1 i' e
    ·have : i' = i := by omega
     subst this; exact hcl' h
   simp only [L55_3, wp, Sum.elim_inl, Sum.elim_inr, ne_eq, ge_iff_le, gt_iff_lt, reduceCtorEq, forall_const, Bool.true_eq_false, Bool.false_eq_true, implies_true, ret_eq hn]
   refine ⟨fun hlt2 => ?_, fun hge2 => ?_⟩
   ·refine ret_gI (by omega) (by omega) fun v hv _ => ?_
    simp only [ret_eq hv]
    cases v with
    | false =>
     simp only [J55_1, wp, Sum.elim_inl, Sum.elim_inr, ne_eq, ge_iff_le, gt_iff_lt, reduceCtorEq, forall_const, Bool.true_eq_false, Bool.false_eq_true, implies_true, hw]
     exact fin fun h hin => by rw [(hn2 h).1] at hv; rw [hv] at hin; cases hin
    | true =>
     have hkl : k < n.2.2.length := by omega
     obtain ⟨y, hy⟩ : ∃ y, n.2.2[k]? = some y := ⟨_, List.getElem?_eq_getElem hkl⟩
     have gy : gI n.2.2 (k : Int) = some y := by rw [gI_nat, hy]
     have hwk := wrap_succ k (by omega)
     simp only [J55_1, wp, Sum.elim_inl, Sum.elim_inr, ne_eq, ge_iff_le, gt_iff_lt, reduceCtorEq, forall_const, Bool.true_eq_false, Bool.false_eq_true, implies_true, ret_eq hn, ret_eq gy, F39_eq]
     have next : ∀ m3 c3, B c3 → (m3 = true → falses c3 < falses c) → (m3 = false → c3 = c ∧ m2 = false ∧ (inR l.length y → gI c y = some true)) → (∃ k : Nat, ((k : Nat) : Int) = ((k : Nat) : Int) ∧ True) → Ret (J55_2 (k : Int) (m3, c3)) (StepQ (fun q : Bool × Int × List Bool => ∃ k : Nat, q.2.1 = k ∧ k ≤ n.2.2.length ∧ B q.2.2 ∧ (q.1 = true → falses q.2.2 < falses c) ∧ (q.1 = false → q.2.2 = c ∧ (∀ i' : Nat, i' < i → Cl c (i' : Int)) ∧ ∀ (j : Nat) y, j < k → n.2.2[j]? = some y → inR l.length y → gI c y = some true)) (fun q => n.2.2.length - q.2.1.toNat) (StepQ (fun q : Bool × Int × List Bool => ∃ i : Nat, q.2.1 = i ∧ i ≤ l.length ∧ B q.2.2 ∧ (q.1 = true → falses q.2.2 < falses c) ∧ (q.1 = false → q.2.2 = c ∧ ∀ i' : Nat, i' < i → Cl c (i' : Int))) (fun q => l.length - q.2.1.toNat) (StepQ (fun q : Bool × List Bool => B q.2 ∧ (q.1 = false → ∀ i : Nat, i < l.length → Cl q.2 (i : Int))) (fun q => 2 * falses q.2 + (if q.1 then 1 else 0)) (MkQ l fun j => gI b j = some true) (true, c)) (m, (i : Int), c1)) (m2, (k : Int), c2)) := fun m3 c3 hB3 hy3 hn3 _ => by
      simp only [J55_2, ret_some, stepQ_inl, hwk]
      refine ⟨⟨k + 1, rfl, by omega, hB3, hy3, fun h => ?_⟩, by show n.2.2.length - (((k + 1 : Nat) : Int)).toNat < n.2.2.length - ((k : Int)).toNat; omega⟩
      obtain ⟨h1, h2, h3⟩ := hn3 h
      refine ⟨h1, (hn2 h2).2.1, fun j y' hj hy' hr => ?_⟩
      by_cases e : j < k
      ·exact (hn2 h2).2.2 j y' e hy' hr
      ·have : j = k := by omega
       subst this
       rw [hy] at hy'; cases hy'
       exact h3 hr
     refine ⟨fun hry => ?_, fun hry => ?_⟩
     ·refine ret_gI hry.1 (by rw [hc2]; exact hry.2) fun w hw' _ => ?_
      simp only [ret_eq hw']
      cases w with
      | true =>
       simp only [J55_3, wp, Sum.elim_inl, Sum.elim_inr, ne_eq, ge_iff_le, gt_iff_lt, reduceCtorEq, forall_const, Bool.true_eq_false, Bool.false_eq_true, implies_true]
       exact next _ _ hB2 hy2 (fun h => ⟨(hn2 h).1, h, fun _ => by rw [← (hn2 h).1]; exact hw'⟩) ⟨0, rfl, trivial⟩
      | false =>
       have hfs : falses (setI c2 y true) + 1 = falses c2 := falses_set c2 y.toNat (gI_some hw').2.2
       have hyl : y < c2.length := by rw [hc2]; exact hry.2
       simp only [J55_3, wp, Sum.elim_inl, Sum.elim_inr, ne_eq, ge_iff_le, gt_iff_lt, reduceCtorEq, forall_const, Bool.true_eq_false, Bool.false_eq_true, implies_true, ret_eq hw']
       refine next _ _ ⟨by rw [setI_len]; exact hc2, fun j hj => ?_, fun j hj => gI_set_t' hry.1 hyl (hB2.2.2 j hj)⟩ (fun _ => ?_) (fun h => (by cases h)) ⟨0, rfl, trivial⟩
       ·rcases gI_set_inv' hry.1 hj with rfl | h1
        ·exact .kid (hB2.2.1 _ hv) hn (List.mem_of_getElem? hy) hry
        ·exact hB2.2.1 j h1
       ·cases m2 with
        | true => have := hy2 rfl; omega
        | false => rw [(hn2 rfl).1] at hfs; rw [(hn2 rfl).1]; omega
     ·simp only [J55_3, wp, Sum.elim_inl, Sum.elim_inr, ne_eq, ge_iff_le, gt_iff_lt, reduceCtorEq, forall_const, Bool.true_eq_false, Bool.false_eq_true, implies_true]
      exact next _ _ hB2 hy2 (fun h => ⟨(hn2 h).1, h, fun hr => absurd hr hry⟩) ⟨0, rfl, trivial⟩
   ·simp only [J55_1, wp, Sum.elim_inl, Sum.elim_inr, ne_eq, ge_iff_le, gt_iff_lt, reduceCtorEq, forall_const, Bool.true_eq_false, Bool.false_eq_true, implies_true, hw]
    refine fin fun h hin n' hn' y hy hr => ?_
    rw [hn] at hn'; cases hn'
    obtain ⟨j, hj⟩ := List.getElem?_of_mem hy
    exact (hn2 h).2.2 j y (by have := (List.getElem?_eq_some_iff.1 hj).1; omega) hj hr
  ·have hil : i = l.length := by omega
   refine ⟨⟨hB1, fun h i' hi' => ?_⟩, ?_⟩
   ·rw [(hn1 h).1]; exact (hn1 h).2 i' (by omega)
   ·cases m with
    | true => have := hy1 rfl; simp; omega
    | false => rw [(hn1 rfl).1]; simp
 ·subst hm
  have hcl := hcl rfl
  refine ⟨hB.1, fun j => ⟨hB.2.1 j, fun hj => ?_⟩⟩
  induction hj with
  | base h1 h2 => exact hB.2.2 _ h1
  | kid h0 h1 h2 h3 ih =>
   rename_i i k n
   have hr := h0.inr
   obtain ⟨i', rfl⟩ : ∃ i' : Nat, i = (i' : Int) := ⟨i.toNat, by have := hr.1; omega⟩
   exact hcl i' (by have := hr.2; omega) ih _ h1 _ h2 h3
end Go.Dat
/-
 Renumbering, subsets, Prove.
-/
namespace Go.Dat
open Go.Eng
set_option linter.unusedSimpArgs false
set_option linter.unusedVariables false

def cntB (b : List Bool) (i : Nat) : Nat := (b.take i).count true
theorem cntB_succ (b : List Bool) (i : Nat) (v : Bool) (h : b[i]? = some v) : cntB b (i + 1) = cntB b i + (if v then 1 else 0) := by
 unfold cntB
 rw [List.take_add_one, h, List.count_append]
 cases v <;> rfl
theorem cntB_le (b : List Bool) : ∀ i, cntB b i ≤ i := fun i => by
 unfold cntB
 exact Nat.le_trans List.count_le_length (by simp; omega)
def numAt (b : List Bool) (i : Nat) : Int := if b[i]? = some true then (cntB b i : Int) else -1
structure NumQ (b : List Bool) (out : List Int) : Prop where
 len : out.length = b.length
 at' : ∀ i : Nat, i < b.length → out[i]? = some (numAt b i)
theorem NumQ.uniq {b : List Bool} {x y : List Int} (h : NumQ b x) (h' : NumQ b y) : x = y := by
 apply List.ext_getElem?
 intro i
 by_cases hi : i < b.length
 ·rw [h.at' i hi, h'.at' i hi]
 ·rw [List.getElem?_eq_none (by rw [h.len]; omega), List.getElem?_eq_none (by rw [h'.len]; omega)]
theorem set_at {α : Type} {l : List α} {i : Nat} {v : α} {P : Nat → Option α → Prop} (hi : i < l.length) (h : ∀ j, j < i → P j l[j]?) (hv : P i (some v)) : ∀ j, j < i + 1 → P j (l.set i v)[j]? := fun j hj => by
 by_cases e : i = j
 ·subst e; rw [List.getElem?_set_self hi]; exact hv
 ·rw [List.getElem?_set_ne e]; exact h j (by omega)
theorem F31_ok {b : List Bool} (hb : b.length ≤ 1000000) : Ret (F31 b) (NumQ b) := by
 simp only [F31, wp, Sum.elim_inl, Sum.elim_inr, ne_eq, ge_iff_le, gt_iff_lt, reduceCtorEq, forall_const, Bool.true_eq_false, Bool.false_eq_true, implies_true]
 refine ⟨fun _ => ?_, fun h => absurd h (by omega)⟩
 refine ret_loop (fun q : Int × Int × List Int => ∃ i : Nat, q.2.1 = i ∧ i ≤ b.length ∧ q.1 = (cntB b i : Int) ∧ q.2.2.length = b.length ∧ ∀ j, j < i → q.2.2[j]? = some (numAt b j)) (fun q => b.length - q.2.1.toNat) ?_ _ ⟨0, rfl, by omega, by simp [cntB], by simp, fun j hj => by omega⟩
 rintro ⟨nx, i', out⟩ ⟨i, e, hi, e2, hl, hat⟩
 dsimp only at e e2 hl hat
 subst e e2
 have hcle := cntB_le b i
 simp only [L31_1, List.length_replicate, Int.toNat_natCast, wp, Sum.elim_inl, Sum.elim_inr, ne_eq, ge_iff_le, gt_iff_lt, reduceCtorEq, forall_const, Bool.true_eq_false, Bool.false_eq_true, implies_true]
 refine ⟨fun hlt => ret_gI (by omega) (by omega) fun y hy _ => ?_, fun hge => ?_⟩
 ·have hil : i < b.length := by omega
  have hbi : b[i]? = some b[i] := List.getElem?_eq_getElem hil
  have hbg : gI b (i : Int) = some b[i] := by rw [gI_nat, hbi]
  generalize b[i] = v at hbi hbg
  have hw := wrap_succ i (by omega)
  have hwc := wrap_succ (cntB b i) (by omega)
  have hc := cntB_succ b i v hbi
  have hg1 : gI (setI out (i : Int) (-1)) (i : Int) = some (-1) := gI_set _ (by omega) (by omega)
  simp only [ret_eq hy, ret_eq hbg, ret_eq hg1, J31_1, wp, Sum.elim_inl, Sum.elim_inr, ne_eq, ge_iff_le, gt_iff_lt, reduceCtorEq, forall_const, Bool.true_eq_false, Bool.false_eq_true, implies_true, hw, hwc]
  refine ⟨fun hv => ?_, fun hv => ?_⟩
  ·subst hv
   refine ⟨⟨i + 1, rfl, by omega, by rw [hc]; rfl, by simp [setI_len, hl], ?_⟩, by omega⟩
   simp only [setI_nat]
   exact set_at (P := fun j o => o = some (numAt b j)) (by simp [hl]; omega) (fun j hj => by rw [List.getElem?_set_ne (by omega)]; exact hat j hj) (by simp [numAt, hbi])
  ·subst hv
   refine ⟨⟨i + 1, rfl, by omega, by rw [hc]; simp, by simp [setI_len, hl], ?_⟩, by omega⟩
   simp only [setI_nat]
   exact set_at (P := fun j o => o = some (numAt b j)) (by omega) hat (by simp [numAt, hbi])
 ·have : i = b.length := by omega
  subst this
  exact ⟨hl, hat⟩

def trI (num : List Int) (y : Int) : Int := if 0 ≤ y ∧ y < num.length then (num[y.toNat]?).getD (-1) else -1
def trL (l num : List Int) : List Int := l.map (trI num)
theorem gI_tr {num : List Int} {y v : Int} (h : gI num y = some v) : trI num y = v := by
 obtain ⟨h0, h1, h2⟩ := gI_some h
 unfold trI; rw [if_pos ⟨h0, h1⟩, h2]; rfl
theorem F46_eq (l num : List Int) (hl : l.length ≤ 1000000) : F46 l num = some (trL l num) := by
 refine Ret.eq ?_
 unfold F46
 refine ret_loop (fun q : Int × List Int => ∃ i : Nat, q.1 = i ∧ i ≤ l.length ∧ q.2 = (l.take i).map (trI num)) (fun q => l.length - q.1.toNat) ?_ _ ⟨0, rfl, by omega, by simp⟩
 rintro ⟨i', out⟩ ⟨i, e, hi, e2⟩
 dsimp only at e e2
 subst e e2
 simp only [L46_1, wp, Sum.elim_inl, Sum.elim_inr, ne_eq, ge_iff_le, gt_iff_lt, reduceCtorEq, forall_const, Bool.true_eq_false, Bool.false_eq_true, implies_true]
 refine ⟨fun hlt => ret_gI (by omega) hlt fun y hy _ => ?_, fun hge => ?_⟩
 ·rw [gI_nat] at hy
  have hw := wrap_succ i (by omega)
  have htake : l.take (i + 1) = l.take i ++ [y] := by rw [List.take_add_one, hy]; rfl
  have next : ∀ v, trI num y = v → (∃ j : Nat, ((i + 1 : Nat) : Int) = (j : Int) ∧ j ≤ l.length ∧ (l.take i).map (trI num) ++ [v] = (l.take j).map (trI num)) ∧ l.length - (((i + 1 : Nat) : Int)).toNat < l.length - ((i : Int)).toNat := fun v hv => ⟨⟨i + 1, rfl, by omega, by rw [htake, List.map_append, ← hv]; rfl⟩, by omega⟩
  have hll : ((l.take i).map (trI num)).length + [y].length ≤ 1000000 := by simp; omega
  refine ⟨fun h0 => ?_, fun h0 => ?_⟩
  ·by_cases h1 : y < num.length
   ·rw [show decide (y < (num.length : Int)) = true by simp; omega]
    simp only [J46_2, wp, Sum.elim_inl, Sum.elim_inr, ne_eq, ge_iff_le, gt_iff_lt, reduceCtorEq, forall_const, Bool.true_eq_false, Bool.false_eq_true, implies_true]
    refine ret_gI h0 h1 fun v hv _ => ?_
    simp only [J46_1, wp, Sum.elim_inl, Sum.elim_inr, ne_eq, ge_iff_le, gt_iff_lt, reduceCtorEq, forall_const, Bool.true_eq_false, Bool.false_eq_true, implies_true, hw]
    exact ⟨fun _ => next v (gI_tr hv), fun h => absurd hll h⟩
   ·rw [show decide (y < (num.length : Int)) = false by simp; omega]
    simp only [J46_2, J46_1, wp, Sum.elim_inl, Sum.elim_inr, ne_eq, ge_iff_le, gt_iff_lt, reduceCtorEq, forall_const, Bool.true_eq_false, Bool.false_eq_true, implies_true, hw]
    exact ⟨fun _ => next _ (by unfold trI; rw [if_neg (by omega)]), fun h => absurd hll h⟩
  ·simp only [J46_2, J46_1, wp, Sum.elim_inl, Sum.elim_inr, ne_eq, ge_iff_le, gt_iff_lt, reduceCtorEq, forall_const, Bool.true_eq_false, Bool.false_eq_true, implies_true, hw]
   exact ⟨fun _ => next _ (by unfold trI; rw [if_neg (by omega)]), fun h => absurd hll h⟩
 ·have : i = l.length := by omega
  subst this
  rw [List.take_length]; rfl
theorem F47_eq (l num : List Int) (hl : l.length ≤ 1000000) : F47 l num = some (trL l num) := by
 refine Ret.eq ?_
 unfold F47
 refine ret_loop (fun q : Int × List Int => ∃ i : Nat, q.1 = i ∧ i ≤ l.length ∧ q.2 = (l.take i).map (trI num)) (fun q => l.length - q.1.toNat) ?_ _ ⟨0, rfl, by omega, by simp⟩
 rintro ⟨i', out⟩ ⟨i, e, hi, e2⟩
 dsimp only at e e2
 subst e e2
 simp only [L47_1, wp, Sum.elim_inl, Sum.elim_inr, ne_eq, ge_iff_le, gt_iff_lt, reduceCtorEq, forall_const, Bool.true_eq_false, Bool.false_eq_true, implies_true]
 refine ⟨fun hlt => ret_gI (by omega) hlt fun y hy _ => ?_, fun hge => ?_⟩
 ·have hy' := hy
  rw [gI_nat] at hy'
  have hw := wrap_succ i (by omega)
  have htake : l.take (i + 1) = l.take i ++ [y] := by rw [List.take_add_one, hy']; rfl
  have next : ∀ v, trI num y = v → (∃ j : Nat, ((i + 1 : Nat) : Int) = (j : Int) ∧ j ≤ l.length ∧ (l.take i).map (trI num) ++ [v] = (l.take j).map (trI num)) ∧ l.length - (((i + 1 : Nat) : Int)).toNat < l.length - ((i : Int)).toNat := fun v hv => ⟨⟨i + 1, rfl, by omega, by rw [htake, List.map_append, ← hv]; rfl⟩, by omega⟩
  have hll : ((l.take i).map (trI num)).length + [y].length ≤ 1000000 := by simp; omega
  refine ⟨fun h0 => ?_, fun h0 => ?_⟩
  ·simp only [ret_eq hy]
   by_cases h1 : y < num.length
   ·rw [show decide (y < (num.length : Int)) = true by simp; omega]
    simp only [J47_2, wp, Sum.elim_inl, Sum.elim_inr, ne_eq, ge_iff_le, gt_iff_lt, reduceCtorEq, forall_const, Bool.true_eq_false, Bool.false_eq_true, implies_true, ret_eq hy]
    refine ret_gI h0 h1 fun v hv _ => ?_
    simp only [J47_1, wp, Sum.elim_inl, Sum.elim_inr, ne_eq, ge_iff_le, gt_iff_lt, reduceCtorEq, forall_const, Bool.true_eq_false, Bool.false_eq_true, implies_true, hw]
    exact ⟨fun _ => next v (gI_tr hv), fun h => absurd hll h⟩
   ·rw [show decide (y < (num.length : Int)) = false by simp; omega]
    simp only [J47_2, J47_1, wp, Sum.elim_inl, Sum.elim_inr, ne_eq, ge_iff_le, gt_iff_lt, reduceCtorEq, forall_const, Bool.true_eq_false, Bool.false_eq_true, implies_true, hw]
    exact ⟨fun _ => next _ (by unfold trI; rw [if_neg (by omega)]), fun h => absurd hll h⟩
  ·simp only [J47_2, J47_1, wp, Sum.elim_inl, Sum.elim_inr, ne_eq, ge_iff_le, gt_iff_lt, reduceCtorEq, forall_const, Bool.true_eq_false, Bool.false_eq_true, implies_true, hw]
   exact ⟨fun _ => next _ (by unfold trI; rw [if_neg (by omega)]), fun h => absurd hll h⟩
 ·have : i = l.length := by omega
  subst this
  rw [List.take_length]; rfl

def nodeAt (l : List NodeT) (num : List Int) (i : Nat) : NodeT := match l[i]? with | some n => (n.1, n.2.1, trL n.2.2 num) | none => (0, 0, [])
def selN (l : List NodeT) (b : List Bool) (num : List Int) (n : Nat) : List NodeT := ((List.range n).filter fun i => b[i]? == some true).map (nodeAt l num)
theorem selN_succ (l : List NodeT) (b : List Bool) (num : List Int) (n : Nat) : selN l b num (n + 1) = selN l b num n ++ (if b[n]? = some true then [nodeAt l num n] else []) := by
 unfold selN
 rw [List.range_succ, List.filter_append, List.map_append]
 congr 1
 by_cases h : b[n]? = some true
 ·rw [if_pos h]; simp [h]
 ·rw [if_neg h]; simp [h]
theorem selN_len (l : List NodeT) (b : List Bool) (num : List Int) (n : Nat) : (selN l b num n).length ≤ n := by
 unfold selN
 rw [List.length_map]
 exact Nat.le_trans (List.length_filter_le _ _) (by simp)
def stepAt (l : List StepT) (num : List Int) (t : Int) : StepT := match gI l t with | some x => (trI num x.1, trI num x.2.1, x.2.2.1, trL x.2.2.2.1 num, x.2.2.2.2) | none => (0, 0, 0, [], [])

structure SmallS (s : SatT) : Prop where
 n : Small s.1
 v : ∀ x ∈ s.2.1, x.2.2.2.1.length ≤ 1000 ∧ x.2.2.2.2.length ≤ 1000
 sl : s.2.1.length ≤ 1000
theorem RawQ.small {s : SatT} (h : RawQ s) : SmallS s := ⟨⟨by have := h.n1; omega, fun x hx => by have := h.nk x hx; omega⟩, fun x hx => by have := h.sv x hx; exact ⟨by omega, by rw [this.2]; simp⟩, by have := h.sl; omega⟩

theorem F32_eq {s : SatT} (hs : SmallS s) {b : List Bool} {num : List Int} (hb : b.length = s.1.length) (hnum : num.length = s.1.length) (steps : List Int) (he : ∀ t ∈ steps, EdgeOk s t) (hsl : steps.length ≤ 1000) : F32 s steps b num = some (selN s.1 b num s.1.length, steps.map (stepAt s.2.1 num)) := by
 refine Ret.eq ?_
 have hN := hs.n.n
 unfold F32
 refine ret_loop (fun q : Int × List NodeT => ∃ i : Nat, q.1 = i ∧ i ≤ s.1.length ∧ q.2 = selN s.1 b num i) (fun q => s.1.length - q.1.toNat) ?_ _ ⟨0, rfl, by omega, rfl⟩
 rintro ⟨i', out⟩ ⟨i, e, hi, e2⟩
 dsimp only at e e2
 subst e e2
 simp only [L32_1, wp, Sum.elim_inl, Sum.elim_inr, ne_eq, ge_iff_le, gt_iff_lt, reduceCtorEq, forall_const, Bool.true_eq_false, Bool.false_eq_true, implies_true]
 refine ⟨fun hlt => ?_, fun hge => ?_⟩
 ·have hil : i < s.1.length := by omega
  have hx : s.1[i]? = some s.1[i] := List.getElem?_eq_getElem hil
  have hg : gI s.1 (i : Int) = some s.1[i] := by rw [gI_nat, hx]
  generalize s.1[i] = n at hx hg
  have hbi : b[i]? = some (b[i]'(by omega)) := List.getElem?_eq_getElem _
  have hbg : gI b (i : Int) = some (b[i]'(by omega)) := by rw [gI_nat, hbi]
  generalize b[i]'(by omega) = v at hbi hbg
  have hk := hs.n.k n (List.mem_of_getElem? hx)
  have hw := wrap_succ i (by omega)
  have hlen := selN_len s.1 b num i
  simp only [ret_eq hg, ret_eq hbg, F46_eq n.2.2 num (by omega), J32_1, wp, Sum.elim_inl, Sum.elim_inr, ne_eq, ge_iff_le, gt_iff_lt, reduceCtorEq, forall_const, Bool.true_eq_false, Bool.false_eq_true, implies_true, hw]
  refine ⟨fun hv => ⟨fun _ => ?_, fun h => absurd h (by simp only [List.length_cons, List.length_nil]; omega)⟩, fun hv => ?_⟩
  ·refine ⟨⟨i + 1, rfl, by omega, ?_⟩, by omega⟩
   rw [selN_succ, if_pos (by rw [hbi, hv])]
   congr 1
   simp [nodeAt, hx]
  ·refine ⟨⟨i + 1, rfl, by omega, ?_⟩, by omega⟩
   rw [selN_succ, if_neg (by rw [hbi, hv]; simp), List.append_nil]
 ·have : i = s.1.length := by omega
  subst this
  refine ret_loop (fun q : Int × List NodeT × List StepT => ∃ i : Nat, q.1 = i ∧ i ≤ steps.length ∧ q.2.1 = selN s.1 b num s.1.length ∧ q.2.2 = (steps.take i).map (stepAt s.2.1 num)) (fun q => steps.length - q.1.toNat) ?_ _ ⟨0, rfl, by omega, rfl, by simp⟩
  rintro ⟨i', nd, out⟩ ⟨i, e, hi, e1, e2⟩
  dsimp only at e e1 e2
  subst e e1 e2
  simp only [L32_2, wp, Sum.elim_inl, Sum.elim_inr, ne_eq, ge_iff_le, gt_iff_lt, reduceCtorEq, forall_const, Bool.true_eq_false, Bool.false_eq_true, implies_true]
  refine ⟨fun hlt => ret_gI (by omega) hlt fun t ht htm => ?_, fun hge => ?_⟩
  ·rw [gI_nat] at ht
   obtain ⟨x, hx, hl, hr⟩ := he t htm
   have hxv := hs.v x (gI_mem hx)
   have htake : steps.take (i + 1) = steps.take i ++ [t] := by rw [List.take_add_one, ht]; rfl
   have hw := wrap_succ i (by omega)
   obtain ⟨vL, hvL, _⟩ := gI_ok (l := num) hl.1 (by rw [hnum]; exact hl.2)
   obtain ⟨vR, hvR, _⟩ := gI_ok (l := num) hr.1 (by rw [hnum]; exact hr.2)
   simp only [ret_eq hx, ret_eq hvL, ret_eq hvR, F46_eq x.2.2.2.1 num (by omega), List.nil_append, List.length_nil, wp, Sum.elim_inl, Sum.elim_inr, ne_eq, ge_iff_le, gt_iff_lt, reduceCtorEq, forall_const, Bool.true_eq_false, Bool.false_eq_true, implies_true, hw]
   refine ⟨fun _ => ⟨fun _ => ?_, fun h => absurd h (by simp; omega)⟩, fun h => absurd h (by omega)⟩
   refine ⟨⟨i + 1, rfl, by omega, ?_⟩, by omega⟩
   rw [htake, List.map_append]
   congr 1
   simp [stepAt, hx, gI_tr hvL, gI_tr hvR]
  ·have : i = steps.length := by omega
   subst this
   rw [List.take_length]

theorem F42_ok {s : SatT} (hs : SmallS s) {b0 : List Bool} (hb : b0.length = s.1.length) (steps : List Int) (he : ∀ t ∈ steps, EdgeOk s t) (hsl : steps.length ≤ 1000) :
  Ret (F42 s.1 s.2.1 s.2.2.1 s.2.2.2.1 s.2.2.2.2.1 s.2.2.2.2.2.1 s.2.2.2.2.2.2 steps b0) fun r => ∃ b num, MkQ s.1 (fun j => gI b0 j = some true ∨ StS s steps j) b ∧ NumQ b num ∧ r = (b, selN s.1 b num s.1.length, steps.map (stepAt s.2.1 num), num) := by
 have hN := hs.n.n
 unfold F42
 refine ret_loop (fun q : Int × List Bool => ∃ i : Nat, q.1 = i ∧ i ≤ steps.length ∧ q.2.length = s.1.length ∧ ∀ j, inR s.1.length j → (gI q.2 j = some true ↔ gI b0 j = some true ∨ StS s (steps.take i) j)) (fun q => steps.length - q.1.toNat) ?_ _ ⟨0, rfl, by omega, hb, fun j _ => ⟨.inl, fun h => h.elim id fun ⟨t, ht, _⟩ => absurd ht (by simp)⟩⟩
 rintro ⟨i', c⟩ ⟨i, e, hi, hcl, M⟩
 dsimp only at e hcl M
 subst e
 have set_iff : ∀ (c : List Bool) (y j : Int), c.length = s.1.length → inR s.1.length y → (gI (setI c y true) j = some true ↔ gI c j = some true ∨ j = y) := fun c y j hc hy => by
  constructor
  ·intro h
   rcases gI_set_inv' hy.1 h with rfl | h
   ·exact .inr rfl
   ·exact .inl h
  ·rintro (h | rfl)
   ·exact gI_set_t' hy.1 (by rw [hc]; exact hy.2) h
   ·exact gI_set true hy.1 (by rw [hc]; exact hy.2)
 simp only [L42_1, wp, Sum.elim_inl, Sum.elim_inr, ne_eq, ge_iff_le, gt_iff_lt, reduceCtorEq, forall_const, Bool.true_eq_false, Bool.false_eq_true, implies_true]
 refine ⟨fun hlt => ret_gI (by omega) hlt fun t ht htm => ?_, fun hge => ?_⟩
 ·rw [gI_nat] at ht
  obtain ⟨x, hx, hl, hr⟩ := he t htm
  have hxv := hs.v x (gI_mem hx)
  have htake : steps.take (i + 1) = steps.take i ++ [t] := by rw [List.take_add_one, ht]; rfl
  have hw := wrap_succ i (by omega)
  obtain ⟨u1, hu1, _⟩ := gI_ok (l := c) hl.1 (by rw [hcl]; exact hl.2)
  obtain ⟨u2, hu2, _⟩ := gI_ok (l := setI c x.1 true) hr.1 (by rw [setI_len, hcl]; exact hr.2)
  simp only [ret_eq hx, ret_eq hu1, ret_eq hu2]
  refine ret_loop (fun q : Int × List Bool => ∃ k : Nat, q.1 = k ∧ k ≤ x.2.2.2.1.length ∧ q.2.length = s.1.length ∧ ∀ j, inR s.1.length j → (gI q.2 j = some true ↔ ((gI b0 j = some true ∨ StS s (steps.take i) j) ∨ j = x.1 ∨ j = x.2.1 ∨ j ∈ x.2.2.2.1.take k))) (fun q => x.2.2.2.1.length - q.1.toNat) ?_ _ ⟨0, rfl, by omega, by simp [setI_len, hcl], fun j hj => by
   dsimp only
   rw [set_iff _ _ _ (by rw [setI_len, hcl]) hr, set_iff _ _ _ hcl hl, M j hj]
   simp [or_assoc]⟩
  rintro ⟨k', c3⟩ ⟨k, e, hk, hc3, M3⟩
  dsimp only at e hc3 M3
  subst e
  simp only [L42_2, wp, Sum.elim_inl, Sum.elim_inr, ne_eq, ge_iff_le, gt_iff_lt, reduceCtorEq, forall_const, Bool.true_eq_false, Bool.false_eq_true, implies_true]
  refine ⟨fun hlt => ret_gI (by omega) hlt fun y hy _ => ?_, fun hge => ?_⟩
  ·have hy' := hy
   rw [gI_nat] at hy'
   have hwk := wrap_succ k (by omega)
   have hty : x.2.2.2.1.take (k + 1) = x.2.2.2.1.take k ++ [y] := by rw [List.take_add_one, hy']; rfl
   simp only [F39_eq, wp, Sum.elim_inl, Sum.elim_inr, ne_eq, ge_iff_le, gt_iff_lt, reduceCtorEq, forall_const, Bool.true_eq_false, Bool.false_eq_true, implies_true, ret_eq hy]
   refine ⟨fun hin => ?_, fun hin => ?_⟩
   ·obtain ⟨w, hw', _⟩ := gI_ok (l := c3) hin.1 (by rw [hc3]; exact hin.2)
    simp only [ret_eq hw', J42_1, wp, Sum.elim_inl, Sum.elim_inr, ne_eq, ge_iff_le, gt_iff_lt, reduceCtorEq, forall_const, Bool.true_eq_false, Bool.false_eq_true, implies_true, hwk]
    refine ⟨⟨k + 1, rfl, by omega, by rw [setI_len, hc3], fun j hj => ?_⟩, by omega⟩
    rw [set_iff _ _ _ hc3 hin, M3 j hj, hty]
    simp [or_assoc]
   ·simp only [J42_1, wp, Sum.elim_inl, Sum.elim_inr, ne_eq, ge_iff_le, gt_iff_lt, reduceCtorEq, forall_const, Bool.true_eq_false, Bool.false_eq_true, implies_true, hwk]
    refine ⟨⟨k + 1, rfl, by omega, hc3, fun j hj => ?_⟩, by omega⟩
    rw [M3 j hj, hty]
    have : j ≠ y := fun h => hin (by rw [← h]; exact hj)
    simp [this]
  ·have : k = x.2.2.2.1.length := by omega
   subst this
   rw [List.take_length] at M3
   rw [hw]
   refine ⟨⟨i + 1, rfl, by omega, hc3, fun j hj => ?_⟩, by show steps.length - (((i + 1 : Nat) : Int)).toNat < steps.length - ((i : Int)).toNat; omega⟩
   rw [M3 j hj, htake]
   constructor
   ·rintro ((h | ⟨t', h1, h2⟩) | h | h | h)
    ·exact .inl h
    ·exact .inr ⟨t', List.mem_append_left _ h1, h2⟩
    ·exact .inr ⟨t, by simp, x, hx, .inl h⟩
    ·exact .inr ⟨t, by simp, x, hx, .inr (.inl h)⟩
    ·exact .inr ⟨t, by simp, x, hx, .inr (.inr h)⟩
   ·rintro (h | ⟨t', h1, x', h2, h3⟩)
    ·exact .inl (.inl h)
    ·rcases List.mem_append.1 h1 with h1 | h1
     ·exact .inl (.inr ⟨t', h1, x', h2, h3⟩)
     ·rw [List.mem_singleton.1 h1, hx] at h2
      cases h2
      exact .inr h3
 ·have hil : i = steps.length := by omega
  subst hil
  rw [List.take_length] at M
  refine Ret.mono (F55_ok hs.n hcl) fun b _ hbq => ?_
  have MB : MkQ s.1 (fun j => gI b0 j = some true ∨ StS s steps j) b := hbq.congr M
  have hbl := MB.len
  refine ⟨fun _ => ?_, fun h => absurd h (by omega)⟩
  refine ret_loop (fun q : Int × Int × List Bool × List Int => ∃ i : Nat, q.2.1 = i ∧ i ≤ b.length ∧ q.1 = (cntB b i : Int) ∧ q.2.2.1 = b ∧ q.2.2.2.length = b.length ∧ ∀ j, j < i → q.2.2.2[j]? = some (numAt b j)) (fun q => b.length - q.2.1.toNat) ?_ _ ⟨0, rfl, by omega, by simp [cntB], rfl, by simp [hbl], fun j hj => by omega⟩
  rintro ⟨nx, i', b', out⟩ ⟨i, e, hi, e2, e3, hl, hat⟩
  dsimp only at e e2 e3 hl hat
  subst e e2 e3
  have hcle := cntB_le b' i
  simp only [L42_3, wp, Sum.elim_inl, Sum.elim_inr, ne_eq, ge_iff_le, gt_iff_lt, reduceCtorEq, forall_const, Bool.true_eq_false, Bool.false_eq_true, implies_true]
  refine ⟨fun hlt => ret_gI (by omega) (by omega) fun y hy _ => ?_, fun hge => ?_⟩
  ·have hil : i < b'.length := by omega
   have hbi : b'[i]? = some b'[i] := List.getElem?_eq_getElem hil
   have hbg : gI b' (i : Int) = some b'[i] := by rw [gI_nat, hbi]
   generalize b'[i] = v at hbi hbg
   have hw := wrap_succ i (by omega)
   have hwc := wrap_succ (cntB b' i) (by omega)
   have hc := cntB_succ b' i v hbi
   have hg1 : gI (setI out (i : Int) (-1)) (i : Int) = some (-1) := gI_set _ (by omega) (by omega)
   simp only [ret_eq hy, ret_eq hbg, ret_eq hg1, J42_2, wp, Sum.elim_inl, Sum.elim_inr, ne_eq, ge_iff_le, gt_iff_lt, reduceCtorEq, forall_const, Bool.true_eq_false, Bool.false_eq_true, implies_true, hw, hwc]
   refine ⟨fun hv => ?_, fun hv => ?_⟩
   ·subst hv
    refine ⟨⟨i + 1, rfl, by omega, by rw [hc]; rfl, by simp [setI_len, hl], ?_⟩, by omega⟩
    simp only [setI_nat]
    exact set_at (P := fun j o => o = some (numAt b' j)) (by simp [hl]; omega) (fun j hj => by rw [List.getElem?_set_ne (by omega)]; exact hat j hj) (by simp [numAt, hbi])
   ·subst hv
    refine ⟨⟨i + 1, rfl, by omega, by rw [hc]; simp, by simp [setI_len, hl], ?_⟩, by omega⟩
    simp only [setI_nat]
    exact set_at (P := fun j o => o = some (numAt b' j)) (by omega) hat (by simp [numAt, hbi])
  ·have hib : i = b'.length := by omega
   subst hib
   have NQ : NumQ b' out := ⟨hl, hat⟩
   have hol : out.length = s.1.length := by rw [hl, hbl]
   refine ret_loop (fun q : Int × List Bool × List Int × List NodeT => ∃ i : Nat, q.1 = i ∧ i ≤ s.1.length ∧ q.2.1 = b' ∧ q.2.2.1 = out ∧ q.2.2.2 = selN s.1 b' out i) (fun q => s.1.length - q.1.toNat) ?_ _ ⟨0, rfl, by omega, rfl, rfl, rfl⟩
   rintro ⟨i', b2, out2, nd⟩ ⟨i, e, hi, e1, e2, e3⟩
   dsimp only at e e1 e2 e3
   subst e e1 e2 e3
   simp only [L42_4, wp, Sum.elim_inl, Sum.elim_inr, ne_eq, ge_iff_le, gt_iff_lt, reduceCtorEq, forall_const, Bool.true_eq_false, Bool.false_eq_true, implies_true, hol]
   refine ⟨fun hlt => ?_, fun hge => ?_⟩
   ·have hil : i < s.1.length := by omega
    have hx : s.1[i]? = some s.1[i] := List.getElem?_eq_getElem hil
    have hg : gI s.1 (i : Int) = some s.1[i] := by rw [gI_nat, hx]
    generalize s.1[i] = n at hx hg
    have hbi : b2[i]? = some (b2[i]'(by omega)) := List.getElem?_eq_getElem _
    have hbg : gI b2 (i : Int) = some (b2[i]'(by omega)) := by rw [gI_nat, hbi]
    generalize b2[i]'(by omega) = v at hbi hbg
    have hk := hs.n.k n (List.mem_of_getElem? hx)
    have hw := wrap_succ i (by omega)
    have hlen := selN_len s.1 b2 out2 i
    simp only [ret_eq hg, ret_eq hbg, F47_eq n.2.2 out2 (by omega), J42_3, wp, Sum.elim_inl, Sum.elim_inr, ne_eq, ge_iff_le, gt_iff_lt, reduceCtorEq, forall_const, Bool.true_eq_false, Bool.false_eq_true, implies_true, hw]
    refine ⟨fun hv => ⟨fun _ => ?_, fun h => absurd h (by simp only [List.length_cons, List.length_nil]; omega)⟩, fun hv => ?_⟩
    ·refine ⟨⟨i + 1, rfl, by omega, ?_⟩, by omega⟩
     rw [selN_succ, if_pos (by rw [hbi, hv])]
     congr 1
     simp [nodeAt, hx]
    ·refine ⟨⟨i + 1, rfl, by omega, ?_⟩, by omega⟩
     rw [selN_succ, if_neg (by rw [hbi, hv]; simp), List.append_nil]
   ·have : i = s.1.length := by omega
    subst this
    refine ret_loop (fun q : Int × List Bool × List Int × List NodeT × List StepT => ∃ i : Nat, q.1 = i ∧ i ≤ steps.length ∧ q.2.1 = b2 ∧ q.2.2.1 = out2 ∧ q.2.2.2.1 = selN s.1 b2 out2 s.1.length ∧ q.2.2.2.2 = (steps.take i).map (stepAt s.2.1 out2)) (fun q => steps.length - q.1.toNat) ?_ _ ⟨0, rfl, by omega, rfl, rfl, rfl, by simp⟩
    rintro ⟨i', b3, out3, nd, st⟩ ⟨i, e, hi, e1, e2, e3, e4⟩
    dsimp only at e e1 e2 e3 e4
    subst e e1 e2 e3 e4
    simp only [L42_5, wp, Sum.elim_inl, Sum.elim_inr, ne_eq, ge_iff_le, gt_iff_lt, reduceCtorEq, forall_const, Bool.true_eq_false, Bool.false_eq_true, implies_true]
    refine ⟨fun hlt => ret_gI (by omega) hlt fun t ht htm => ?_, fun hge => ?_⟩
    ·rw [gI_nat] at ht
     obtain ⟨x, hx, hl, hr⟩ := he t htm
     have hxv := hs.v x (gI_mem hx)
     have htake : steps.take (i + 1) = steps.take i ++ [t] := by rw [List.take_add_one, ht]; rfl
     have hw := wrap_succ i (by omega)
     obtain ⟨vL, hvL, _⟩ := gI_ok (l := out3) hl.1 (by rw [hol]; exact hl.2)
     obtain ⟨vR, hvR, _⟩ := gI_ok (l := out3) hr.1 (by rw [hol]; exact hr.2)
     simp only [ret_eq hx, ret_eq hvL, ret_eq hvR, F47_eq x.2.2.2.1 out3 (by omega), wp, Sum.elim_inl, Sum.elim_inr, ne_eq, ge_iff_le, gt_iff_lt, reduceCtorEq, forall_const, Bool.true_eq_false, Bool.false_eq_true, implies_true, hw]
     refine ⟨fun _ => ⟨fun _ => ?_, fun h => absurd h (by simp; omega)⟩, fun h => absurd h (by omega)⟩
     refine ⟨⟨i + 1, rfl, by omega, ?_⟩, by omega⟩
     rw [htake, List.map_append]
     congr 1
     simp [stepAt, hx, gI_tr hvL, gI_tr hvR]
    ·have : i = steps.length := by omega
     subst this
     rw [List.take_length]
     exact ⟨b3, out3, MB, NQ, rfl⟩
end Go.Dat
/-
 Prove: the program and the reference agree.
-/
namespace Go.Dat
open Go.Eng
set_option linter.unusedSimpArgs false
set_option linter.unusedVariables false

abbrev ProofT := List NodeT × List StepT × Int × Int
structure SmallP (p : ProofT) : Prop where
 n : Small p.1
 v : ∀ x ∈ p.2.1, x.2.2.2.1.length ≤ 1000 ∧ x.2.2.2.2.length ≤ 1000
 sl : p.2.1.length ≤ 1000
theorem sel_small {s : SatT} (hs : SmallS s) (b : List Bool) (num : List Int) : Small (selN s.1 b num s.1.length) := by
 have := hs.n.n
 refine ⟨Nat.le_trans (selN_len _ _ _ _) this, fun x hx => ?_⟩
 unfold selN at hx
 simp only [List.mem_map, List.mem_filter, List.mem_range] at hx
 obtain ⟨i, ⟨hi, _⟩, rfl⟩ := hx
 have hx : s.1[i]? = some s.1[i] := List.getElem?_eq_getElem hi
 simp only [nodeAt, hx, trL, List.length_map]
 exact hs.n.k _ (List.getElem_mem hi)
theorem step_small {s : SatT} (hs : SmallS s) (num : List Int) (steps : List Int) (he : ∀ t ∈ steps, EdgeOk s t) : ∀ x ∈ steps.map (stepAt s.2.1 num), x.2.2.2.1.length ≤ 1000 ∧ x.2.2.2.2.length ≤ 1000 := by
 intro x hx
 obtain ⟨t, ht, rfl⟩ := List.mem_map.1 hx
 obtain ⟨y, hy, _⟩ := he t ht
 have := hs.v y (gI_mem hy)
 simp only [stepAt, hy, trL, List.length_map]
 exact this
/-- the steps that a list depends on: both ways of computing them -/
theorem deps_eq {s : SatT} (hs : SmallS s) (l : List Int) (hl : l.length ≤ 9223372036854775807) : ∃ d, F11 s l = some d ∧ F16 s l = some d ∧ (∀ t ∈ d, EdgeOk s t) ∧ d.length ≤ 1000 := by
 have h1 := hs.sl
 have h2 := hs.n.n
 have hk : ∀ x ∈ s.1, x.2.2.length ≤ 100000 := fun x hx => by have := hs.n.k x hx; omega
 obtain ⟨d, e1, q1⟩ := F11_ok (s := s) (by omega) (by omega) l hl hk
 obtain ⟨d', e2, q2⟩ := F16_ok (s := s) (by omega) (by omega) l hl hk
 have := q1.uniq l q2
 subst this
 refine ⟨d, e1, e2, fun t ht => ?_, by have := q1.len l; omega⟩
 obtain ⟨p, rfl, hp⟩ := q1
 obtain ⟨i, rfl, hi, hpi⟩ := idxs_mem ht
 exact ((hp i hi).1 hpi).edge (s := s) (by omega) (by omega)
theorem says_yes {s : SatT} {a b below : Int} {row : List Int} {ok : Bool} (h : PathSays s a b below row ok) (ho : ok = true) : inR s.1.length a ∧ inR s.1.length b := by
 rcases h with ⟨_, _, h⟩ | ⟨h1, h2, _⟩
 ·rw [h] at ho; cases ho
 ·exact ⟨h1, h2⟩
theorem mk0 {l : List NodeT} (b : List Bool) (hb : b = List.replicate (Int.toNat (l.length : Int)) false) : MkQ l (fun _ => False) b := by
 subst hb
 refine ⟨by simp, fun j => ⟨fun h => ?_, fun h => ?_⟩⟩
 ·have := (gI_some h).2.2
  rw [List.getElem?_replicate] at this
  split at this <;> cases this
 ·exfalso
  induction h with
  | base h _ => exact h
  | kid _ _ _ _ ih => exact ih
theorem rep_f (n : Nat) (u : Int) : gI (List.replicate n false) u ≠ some true := fun h => by
 have := (gI_some h).2.2
 rw [List.getElem?_replicate] at this
 split at this <;> cases this
theorem prove_eq {s : SatT} (hs : SmallS s) (a b : Int) : ∃ r, F9 s a b = some r ∧ F17 s a b = some r ∧ SmallP r.1 := by
 have h1 := hs.sl
 have h2 := hs.n.n
 have says := pth_says s a b s.2.1.length (by omega) (by omega)
 have e8 := F8_eq s a b s.2.1.length (by omega) (by omega)
 have e14 := F14_eq s a b s.2.1.length (by omega) (by omega)
 generalize pth s a b s.2.1.length = pr at says e8 e14
 obtain ⟨row, ok⟩ := pr
 have hrow := says_len says
 obtain ⟨d, e11, e16, hd, hdl⟩ := deps_eq hs row (by dsimp only at hrow; omega)
 cases ok with
 | false =>
  refine ⟨(([], [], 0, 0), false), ?_, ?_, ⟨⟨by simp, fun x hx => by cases hx⟩, fun x hx => (by cases hx), by simp⟩⟩
  ·refine Ret.eq ?_
   simp only [F9, e8, wp, Sum.elim_inl, Sum.elim_inr, ne_eq, ge_iff_le, gt_iff_lt, reduceCtorEq, forall_const, Bool.true_eq_false, Bool.false_eq_true, implies_true]
  ·refine Ret.eq ?_
   simp only [F17, e14, wp, Sum.elim_inl, Sum.elim_inr, ne_eq, ge_iff_le, gt_iff_lt, reduceCtorEq, forall_const, Bool.true_eq_false, Bool.false_eq_true, implies_true]
 | true =>
  obtain ⟨ha, hb⟩ := says_yes says rfl
  have hg : (0 : Int) ≤ (s.1.length : Int) ∧ (s.1.length : Int) = (s.1.length : Int) ∧ (s.1.length : Int) ≤ 1000000 := by omega
  -- the program
  have key : ∃ B num, MkQ s.1 (fun j => (j = a ∨ j = b) ∨ StS s d j) B ∧ NumQ B num ∧ ∃ va vb, gI num a = some va ∧ gI num b = some vb ∧ F9 s a b = some ((selN s.1 B num s.1.length, d.map (stepAt s.2.1 num), va, vb), true) := by
   obtain ⟨b1, f1, m1⟩ := F29_ok hs.n (mk0 (l := s.1) _ rfl) a
   obtain ⟨b2, f2, m2⟩ := F29_ok hs.n m1 b
   obtain ⟨b3, f3, m3⟩ := F30_ok hs.n (fun x hx => (hs.v x hx).1) m2 d hd (by omega)
   have M : MkQ s.1 (fun j => (j = a ∨ j = b) ∨ StS s d j) b3 := m3.congr fun j _ => by simp
   obtain ⟨num, f4, N⟩ := F31_ok (b := b3) (by rw [m3.len]; omega)
   have nl : num.length = s.1.length := by rw [N.len, m3.len]
   have f5 := F32_eq hs m3.len nl d hd hdl
   obtain ⟨va, g1, _⟩ := gI_ok (l := num) ha.1 (by rw [nl]; exact ha.2)
   obtain ⟨vb, g2, _⟩ := gI_ok (l := num) hb.1 (by rw [nl]; exact hb.2)
   refine ⟨b3, num, M, N, va, vb, g1, g2, Ret.eq ?_⟩
   simp only [F9, e8, e11, f1, f2, f3, f4, f5, g1, g2, wp, Sum.elim_inl, Sum.elim_inr, ne_eq, ge_iff_le, gt_iff_lt, reduceCtorEq, forall_const, Bool.true_eq_false, Bool.false_eq_true, implies_true]
   exact fun h => absurd h (by omega)
  obtain ⟨B, num, M, N, va, vb, g1, g2, hF9⟩ := key
  refine ⟨_, hF9, ?_, ⟨sel_small hs B num, step_small hs num d hd, by simp; exact hdl⟩⟩
  -- the reference
  let b0 := setI (setI (List.replicate (Int.toNat (s.1.length : Int)) false) a true) b true
  have hb0l : b0.length = s.1.length := by simp [b0, setI_len]
  obtain ⟨r, f42, B', num', M', N', hr⟩ := F42_ok hs (b0 := b0) hb0l d hd hdl
  have hb0 : ∀ j, inR s.1.length j → (gI b0 j = some true ↔ j = a ∨ j = b) := fun j hj => by
   constructor
   ·intro h
    rcases gI_set_inv' hb.1 h with h | h
    ·exact .inr h.symm
    ·rcases gI_set_inv' ha.1 h with h | h
     ·exact .inl h.symm
     ·exact absurd h (rep_f _ _)
   ·rintro (rfl | rfl)
    ·exact gI_set_t' hb.1 (by simp [setI_len]; exact hb.2) (gI_set true ha.1 (by simp; exact ha.2))
    ·exact gI_set true hb.1 (by simp [setI_len]; exact hb.2)
  have hBB : B' = B := (M'.congr fun j hj => or_congr (hb0 j hj) Iff.rfl).uniq M
  subst hBB
  have hnn := N'.uniq N
  subst hnn
  subst hr
  refine Ret.eq ?_
  obtain ⟨w1, k1, _⟩ := gI_ok (l := List.replicate (Int.toNat (s.1.length : Int)) false) ha.1 (by simp; exact ha.2)
  obtain ⟨w2, k2, _⟩ := gI_ok (l := setI (List.replicate (Int.toNat (s.1.length : Int)) false) a true) hb.1 (by simp [setI_len]; exact hb.2)
  simp only [F17, e14, e16, wp, Sum.elim_inl, Sum.elim_inr, ne_eq, ge_iff_le, gt_iff_lt, reduceCtorEq, forall_const, Bool.true_eq_false, Bool.false_eq_true, implies_true, k1, k2]
  refine ⟨fun _ => ?_, fun h => absurd h (by omega)⟩
  rw [show setI (setI (List.replicate (Int.toNat (s.1.length : Int)) false) a true) b true = b0 from rfl, f42]
  simp only [wp, Sum.elim_inl, Sum.elim_inr, ne_eq, ge_iff_le, gt_iff_lt, reduceCtorEq, forall_const, Bool.true_eq_false, Bool.false_eq_true, implies_true, g1, g2]
end Go.Dat
/-
 Connects: the forest of the program and the relation of the reference.
-/
namespace Go.Dat
open Go.Eng
set_option linter.unusedSimpArgs false
set_option linter.unusedVariables false
set_option linter.unusedSectionVars false

structure UF (n : Nat) (u : List Int) (rep rk : Nat → Nat) (B : Nat) : Prop where
 len : u.length = n
 rg : ∀ i, i < n → ∃ j, j < n ∧ u[i]? = some ((j : Nat) : Int)
 rl : ∀ i, i < n → rep i < n ∧ rep (rep i) = rep i
 st : ∀ i j : Nat, i < n → u[i]? = some (j : Int) → rep j = rep i
 root : ∀ i, i < n → rep i = i → u[i]? = some (i : Int)
 back : ∀ i, i < n → u[i]? = some (i : Int) → rep i = i
 rank : ∀ i j : Nat, i < n → u[i]? = some (j : Int) → i ≠ j → rk i < rk j
 bd : ∀ i, rk i ≤ B
def UFr (n : Nat) (rep : Nat → Nat) (u : List Int) : Prop := ∃ rk B, UF n u rep rk B
theorem F34_ok {n : Nat} {rep : Nat → Nat} {u : List Int} (h : UFr n rep u) {i : Int} (hi : inR n i) : Ret (F34 i u) fun r => r.1 = ((rep i.toNat : Nat) : Int) ∧ UFr n rep r.2 := by
 obtain ⟨rk, B, h⟩ := h
 unfold F34
 refine ret_loop (fun q : Int × List Int => ∃ k : Nat, q.1 = k ∧ k < n ∧ rep k = rep i.toNat ∧ UF n q.2 rep rk B) (fun q => B - rk q.1.toNat) ?_ _ ⟨i.toNat, by have := hi.1; show i = _; omega, by have := hi.2; have := hi.1; omega, rfl, h⟩
 rintro ⟨k', u⟩ ⟨k, e, hk, hr, U⟩
 dsimp only at e U
 subst e
 obtain ⟨v, hv, huv⟩ := U.rg k hk
 obtain ⟨w, hw, huw⟩ := U.rg v hv
 have hkl : k < u.length := by rw [U.len]; exact hk
 have gs : gI (setI u (k : Int) ((w : Nat) : Int)) (k : Int) = some (w : Int) := gI_set _ (by omega) (by omega)
 simp only [L34_1, ret_eq (gI_D huv), ret_eq (gI_D huw), ret_eq gs, wp, Sum.elim_inl, Sum.elim_inr, ne_eq, ge_iff_le, gt_iff_lt, reduceCtorEq, forall_const, Bool.true_eq_false, Bool.false_eq_true, implies_true]
 refine ⟨fun hne => ?_, fun he => ?_⟩
 ·have hkv : k ≠ v := by intro e; subst e; exact hne rfl
  have h1 := U.rank k v hk huv hkv
  have h2 : rk v ≤ rk w := by
   by_cases e : v = w
   ·subst e; exact Nat.le_refl _
   ·exact Nat.le_of_lt (U.rank v w hv huw e)
  have h3 := U.st k v hk huv
  have h4 := U.st v w hv huw
  have hb := U.bd w
  have hkw : k ≠ w := by intro e; subst e; omega
  refine ⟨⟨w, rfl, hw, by rw [h4, h3, hr], ?_⟩, by simp only [Int.toNat_natCast]; omega⟩
  refine ⟨by rw [setI_len, U.len], fun x hx => ?_, U.rl, fun x y hx hxy => ?_, fun x hx hrx => ?_, fun x hx hxx => ?_, fun x y hx hxy hne => ?_, U.bd⟩
  all_goals rw [setI_nat] at *
  ·by_cases e : k = x
   ·subst e; exact ⟨w, hw, List.getElem?_set_self hkl⟩
   ·rw [List.getElem?_set_ne e]; exact U.rg x hx
  ·by_cases e : k = x
   ·subst e
    rw [List.getElem?_set_self hkl] at hxy
    have : y = w := by have := Option.some.inj hxy; omega
    subst this
    rw [h4, h3]
   ·rw [List.getElem?_set_ne e] at hxy; exact U.st x y hx hxy
  ·by_cases e : k = x
   ·subst e
    have := U.root k hk hrx
    rw [huv] at this
    have := Option.some.inj this; omega
   ·rw [List.getElem?_set_ne e]; exact U.root x hx hrx
  ·by_cases e : k = x
   ·subst e
    rw [List.getElem?_set_self hkl] at hxx
    have := Option.some.inj hxx; omega
   ·rw [List.getElem?_set_ne e] at hxx; exact U.back x hx hxx
  ·by_cases e : k = x
   ·subst e
    rw [List.getElem?_set_self hkl] at hxy
    have : y = w := by have := Option.some.inj hxy; omega
    subst this
    omega
   ·rw [List.getElem?_set_ne e] at hxy; exact U.rank x y hx hxy hne
 ·have : v = k := by omega
  subst this
  have := U.back v hk huv
  exact ⟨by rw [← hr, this], rk, B, U⟩
theorem UFr.union {n : Nat} {rep : Nat → Nat} {u : List Int} (h : UFr n rep u) {a b : Nat} (ha : a < n) (hb : b < n) : UFr n (fun x => if rep x = rep a then rep b else rep x) (u.set (rep a) ((rep b : Nat) : Int)) := by
 obtain ⟨rk, B, U⟩ := h
 obtain ⟨la, ra⟩ := U.rl a ha
 obtain ⟨lb, rb⟩ := U.rl b hb
 have lal : rep a < u.length := by rw [U.len]; exact la
 by_cases hab : rep a = rep b
 ·have e1 : (fun x => if rep x = rep a then rep b else rep x) = rep := by
   funext x
   split
   ·rename_i h; rw [h, hab]
   ·rfl
  have e2 : u.set (rep a) ((rep b : Nat) : Int) = u := by
   apply List.ext_getElem?
   intro i
   by_cases e : rep a = i
   ·subst e; rw [List.getElem?_set_self lal, U.root (rep a) la ra, hab]
   ·rw [List.getElem?_set_ne e]
  rw [e1, e2]; exact ⟨rk, B, U⟩
 ·refine ⟨fun x => if rep x = rep b then rk x + B + 1 else rk x, 2 * B + 1, by rw [List.length_set, U.len], fun x hx => ?_, fun x hx => ?_, fun x y hx hxy => ?_, fun x hx hrx => ?_, fun x hx hxx => ?_, fun x y hx hxy hne => ?_, fun x => ?_⟩
  ·by_cases e : rep a = x
   ·subst e; exact ⟨rep b, lb, List.getElem?_set_self lal⟩
   ·rw [List.getElem?_set_ne e]; exact U.rg x hx
  ·obtain ⟨l1, l2⟩ := U.rl x hx
   try dsimp only
   split
   ·exact ⟨lb, by rw [if_neg (by rw [rb]; exact fun h => hab h.symm), rb]⟩
   ·rename_i hxa; exact ⟨l1, by rw [l2, if_neg hxa]⟩
  ·by_cases e : rep a = x
   ·subst e
    rw [List.getElem?_set_self lal] at hxy
    have : y = rep b := by have := Option.some.inj hxy; omega
    subst this
    try dsimp only
    rw [rb, ra, if_pos rfl, if_neg (fun h => hab h.symm)]
   ·rw [List.getElem?_set_ne e] at hxy
    try dsimp only
    rw [U.st x y hx hxy]
  ·try dsimp only at hrx
   by_cases e : rep a = x
   ·subst e
    rw [ra, if_pos rfl] at hrx
    exact absurd hrx.symm hab
   ·rw [List.getElem?_set_ne e]
    split at hrx
    ·rename_i hxa
     subst hrx
     rw [rb] at hxa
     exact absurd hxa.symm hab
    ·exact U.root x hx hrx
  ·by_cases e : rep a = x
   ·subst e
    rw [List.getElem?_set_self lal] at hxx
    have := Option.some.inj hxx; omega
   ·rw [List.getElem?_set_ne e] at hxx
    have := U.back x hx hxx
    try dsimp only
    rw [if_neg (by rw [this]; exact fun h => e h.symm), this]
  ·by_cases e : rep a = x
   ·subst e
    rw [List.getElem?_set_self lal] at hxy
    have : y = rep b := by have := Option.some.inj hxy; omega
    subst this
    have := U.bd (rep a)
    try dsimp only
    rw [ra, if_neg hab, rb, if_pos rfl]
    omega
   ·rw [List.getElem?_set_ne e] at hxy
    have h1 := U.rank x y hx hxy hne
    have h2 := U.st x y hx hxy
    try dsimp only
    rw [h2]
    split <;> omega
  ·have := U.bd x
   try dsimp only
   split <;> omega
/-- the two say the same -/
def Pt (n : Nat) (rep : Nat → Nat) (one : List Int) : Prop := one.length = n ∧ ∀ i j : Nat, i < n → j < n → (rep i = rep j ↔ one[i]? = one[j]?)
def joinM (one : List Int) (x y : Int) : List Int := one.map fun v => if v = y then x else v
theorem Pt.join {n : Nat} {rep : Nat → Nat} {one : List Int} (h : Pt n rep one) {a b : Nat} (ha : a < n) (hb : b < n) {x y : Int} (hx : one[a]? = some x) (hy : one[b]? = some y) : Pt n (fun i => if rep i = rep a then rep b else rep i) (joinM one x y) := by
 refine ⟨by simp [joinM, h.1], fun i j hi hj => ?_⟩
 obtain ⟨vi, hvi⟩ : ∃ v, one[i]? = some v := ⟨_, List.getElem?_eq_getElem (by rw [h.1]; exact hi)⟩
 obtain ⟨vj, hvj⟩ : ∃ v, one[j]? = some v := ⟨_, List.getElem?_eq_getElem (by rw [h.1]; exact hj)⟩
 have e1 : rep i = rep a ↔ vi = x := (h.2 i a hi ha).trans (by rw [hvi, hx]; simp)
 have e2 : rep j = rep a ↔ vj = x := (h.2 j a hj ha).trans (by rw [hvj, hx]; simp)
 have e3 : rep i = rep b ↔ vi = y := (h.2 i b hi hb).trans (by rw [hvi, hy]; simp)
 have e4 : rep j = rep b ↔ vj = y := (h.2 j b hj hb).trans (by rw [hvj, hy]; simp)
 have e5 : rep i = rep j ↔ vi = vj := (h.2 i j hi hj).trans (by rw [hvi, hvj]; simp)
 have e6 : (joinM one x y)[i]? = some (if vi = y then x else vi) := by simp [joinM, hvi]
 have e7 : (joinM one x y)[j]? = some (if vj = y then x else vj) := by simp [joinM, hvj]
 rw [e6, e7]
 try dsimp only
 simp only [Option.some.injEq]
 by_cases p1 : vi = x <;> by_cases p2 : vj = x <;> by_cases p3 : vi = y <;> by_cases p4 : vj = y <;> simp_all <;> omega

/-! the reference's parts -/
theorem F58_eq {one : List Int} (hl : one.length ≤ 1000000) {a b : Int} {x y : Int} (hx : gI one a = some x) (hy : gI one b = some y) : F58 a b one = some (joinM one x y) := by
 refine Ret.eq ?_
 simp only [F58, ret_eq hx, ret_eq hy, wp, Sum.elim_inl, Sum.elim_inr, ne_eq, ge_iff_le, gt_iff_lt, reduceCtorEq, forall_const, Bool.true_eq_false, Bool.false_eq_true, implies_true]
 refine ret_loop (fun q : Int × List Int => ∃ i : Nat, q.1 = i ∧ i ≤ one.length ∧ q.2.length = one.length ∧ (∀ j, j < i → q.2[j]? = (joinM one x y)[j]?) ∧ ∀ j, i ≤ j → q.2[j]? = one[j]?) (fun q => one.length - q.1.toNat) ?_ _ ⟨0, rfl, by omega, rfl, fun j hj => by omega, fun j _ => rfl⟩
 rintro ⟨i', c⟩ ⟨i, e, hi, hl', h1, h2⟩
 dsimp only at e hl' h1 h2
 subst e
 simp only [L58_1, wp, Sum.elim_inl, Sum.elim_inr, ne_eq, ge_iff_le, gt_iff_lt, reduceCtorEq, forall_const, Bool.true_eq_false, Bool.false_eq_true, implies_true, hl']
 refine ⟨fun hlt => ?_, fun hge => ?_⟩
 ·have hil : i < one.length := by omega
  obtain ⟨v, hv⟩ : ∃ v, one[i]? = some v := ⟨_, List.getElem?_eq_getElem hil⟩
  have hc : c[i]? = some v := by rw [h2 i (Nat.le_refl _), hv]
  have hj : (joinM one x y)[i]? = some (if v = y then x else v) := by simp [joinM, hv]
  have hw := wrap_succ i (by omega)
  simp only [ret_eq (gI_D hc), J58_1, wp, Sum.elim_inl, Sum.elim_inr, ne_eq, ge_iff_le, gt_iff_lt, reduceCtorEq, forall_const, Bool.true_eq_false, Bool.false_eq_true, implies_true, hw, setI_nat]
  refine ⟨fun hv' => ⟨⟨i + 1, rfl, by omega, by simp [hl'], fun j hj' => ?_, fun j hj' => by rw [List.getElem?_set_ne (by omega)]; exact h2 j (by omega)⟩, by omega⟩, fun hv' => ⟨⟨i + 1, rfl, by omega, hl', fun j hj' => ?_, fun j hj' => h2 j (by omega)⟩, by omega⟩⟩
  ·by_cases e : i = j
   ·subst e; rw [List.getElem?_set_self (by omega), hj, if_pos hv']
   ·rw [List.getElem?_set_ne e]; exact h1 j (by omega)
  ·by_cases e : i = j
   ·subst e; rw [hc, hj, if_neg hv']
   ·exact h1 j (by omega)
 ·have : i = one.length := by omega
  subst this
  apply List.ext_getElem?
  intro j
  by_cases hj : j < one.length
  ·exact h1 j hj
  ·rw [List.getElem?_eq_none (by omega), List.getElem?_eq_none (by simp [joinM]; omega)]
def idL (n : Nat) : List Int := (List.range n).map fun (i : Nat) => (i : Int)
theorem idL_at {n i : Nat} (h : i < n) : (idL n)[i]? = some (i : Int) := by simp [idL, h]
theorem idL_len (n : Nat) : (idL n).length = n := by simp [idL]
theorem F56_eq (n : Nat) (h : n ≤ 1000000) : F56 (n : Int) = some (idL n) := by
 refine Ret.eq ?_
 simp only [F56, wp, Sum.elim_inl, Sum.elim_inr, ne_eq, ge_iff_le, gt_iff_lt, reduceCtorEq, forall_const, Bool.true_eq_false, Bool.false_eq_true, implies_true]
 refine ⟨fun _ => ?_, fun h => absurd h (by omega)⟩
 refine ret_loop (fun q : Int × List Int => ∃ i : Nat, q.1 = i ∧ i ≤ n ∧ q.2.length = n ∧ ∀ j, j < i → q.2[j]? = some (j : Int)) (fun q => n - q.1.toNat) ?_ _ ⟨0, rfl, by omega, by simp, fun j hj => by omega⟩
 rintro ⟨i', c⟩ ⟨i, e, hi, hl', h1⟩
 dsimp only at e hl' h1
 subst e
 simp only [L56_1, wp, Sum.elim_inl, Sum.elim_inr, ne_eq, ge_iff_le, gt_iff_lt, reduceCtorEq, forall_const, Bool.true_eq_false, Bool.false_eq_true, implies_true]
 refine ⟨fun hlt => ret_gI (by omega) (by omega) fun y hy _ => ?_, fun hge => ?_⟩
 ·have hw := wrap_succ i (by omega)
  simp only [ret_eq hy, wp, Sum.elim_inl, Sum.elim_inr, ne_eq, ge_iff_le, gt_iff_lt, reduceCtorEq, forall_const, Bool.true_eq_false, Bool.false_eq_true, implies_true, hw, setI_nat]
  refine ⟨⟨i + 1, rfl, by omega, by simp [hl'], fun j hj' => ?_⟩, by omega⟩
  by_cases e : i = j
  ·subst e; rw [List.getElem?_set_self (by omega)]
  ·rw [List.getElem?_set_ne e]; exact h1 j (by omega)
 ·have : i = n := by omega
  subst this
  apply List.ext_getElem?
  intro j
  by_cases hj : j < i
  ·rw [h1 j hj, idL_at hj]
  ·rw [List.getElem?_eq_none (by omega), List.getElem?_eq_none (by rw [idL_len]; omega)]
theorem uf_id (n : Nat) : UFr n (fun i => i) (idL n) := by
 refine ⟨fun _ => 0, 0, idL_len n, fun i hi => ⟨i, hi, idL_at hi⟩, fun i hi => ⟨hi, rfl⟩, fun i j hi h => ?_, fun i hi _ => idL_at hi, fun i hi _ => rfl, fun i j hi h hne => ?_, fun _ => Nat.le_refl _⟩
 ·rw [idL_at hi] at h; have := Option.some.inj h; omega
 ·rw [idL_at hi] at h; have := Option.some.inj h; omega
theorem pt_id (n : Nat) : Pt n (fun i => i) (idL n) := ⟨idL_len n, fun i j hi hj => by rw [idL_at hi, idL_at hj]; simp only [Option.some.injEq]; omega⟩

section
variable {p : ProofT} (hp : SmallP p)
include hp
/-- the operands of a congruence step -/
theorem kids_ok {rep : Nat → Nat} {one u : List Int} (hP : Pt p.1.length rep one) (hU : UFr p.1.length rep u) (y z : NodeT) (hyk : y.2.2.length ≤ 100) (hyz : y.2.2.length = z.2.2.length) :
  Ret (loopL (L12_3 p y z) (0, u)) fun r => (loopL (L57_1 p.1 one y z) 0 = some true ∧ ∃ u', r = .inl u' ∧ UFr p.1.length rep u') ∨ (loopL (L57_1 p.1 one y z) 0 = some false ∧ r = .inr (.inr false)) := by
 refine ret_loop (fun q : Int × List Int => ∃ k : Nat, q.1 = k ∧ k ≤ y.2.2.length ∧ UFr p.1.length rep q.2 ∧ loopL (L57_1 p.1 one y z) 0 = loopL (L57_1 p.1 one y z) (k : Int)) (fun q => y.2.2.length - q.1.toNat) ?_ _ ⟨0, rfl, by omega, hU, rfl⟩
 rintro ⟨k', u⟩ ⟨k, e, hk, hU, hloop⟩
 dsimp only at e hU hloop
 subst e
 simp only [L12_3, wp, Sum.elim_inl, Sum.elim_inr, ne_eq, ge_iff_le, gt_iff_lt, reduceCtorEq, forall_const, Bool.true_eq_false, Bool.false_eq_true, implies_true]
 refine ⟨fun hlt => ?_, fun hge => ?_⟩
 ·have hkl : k < y.2.2.length := by omega
  obtain ⟨v, hv⟩ : ∃ v, y.2.2[k]? = some v := ⟨_, List.getElem?_eq_getElem hkl⟩
  obtain ⟨w, hw⟩ : ∃ w, z.2.2[k]? = some w := ⟨_, List.getElem?_eq_getElem (by omega)⟩
  have gv := gI_D hv
  have gw : gI z.2.2 (k : Int) = some w := by rw [gI_nat, hw]
  have gv' : gI y.2.2 (k : Int) = some v := by rw [gI_nat, hv]
  have hwk := wrap_succ k (by omega)
  simp only [ret_eq gv', ret_eq gw, F26_eq, wp, Sum.elim_inl, Sum.elim_inr, ne_eq, ge_iff_le, gt_iff_lt, reduceCtorEq, forall_const, Bool.true_eq_false, Bool.false_eq_true, implies_true]
  have bad : ¬ inR p.1.length v ∨ (inR p.1.length v ∧ ¬ inR p.1.length w) → loopL (L57_1 p.1 one y z) 0 = some false := fun h => by
   rw [hloop]
   refine loopL_end (Ret.eq ?_)
   simp only [L57_1, wp, Sum.elim_inl, Sum.elim_inr, ne_eq, ge_iff_le, gt_iff_lt, reduceCtorEq, forall_const, Bool.true_eq_false, Bool.false_eq_true, implies_true, ret_eq gv', ret_eq gw, F39_eq]
   refine ⟨fun _ => ?_, fun h => absurd hlt (by omega)⟩
   rcases h with h | ⟨h1, h2⟩
   ·simp only [h, wp, Sum.elim_inl, Sum.elim_inr, ne_eq, ge_iff_le, gt_iff_lt, reduceCtorEq, forall_const, Bool.true_eq_false, Bool.false_eq_true, implies_true, J57_2]
   ·simp only [h1, h2, wp, Sum.elim_inl, Sum.elim_inr, ne_eq, ge_iff_le, gt_iff_lt, reduceCtorEq, forall_const, Bool.true_eq_false, Bool.false_eq_true, implies_true, J57_2]
  refine ⟨fun hno => ?_, fun hyes => ⟨fun hno => ?_, fun hyes2 => ?_⟩⟩
  ·simp only [J12_4, wp, Sum.elim_inl, Sum.elim_inr, ne_eq, ge_iff_le, gt_iff_lt, reduceCtorEq, forall_const, Bool.true_eq_false, Bool.false_eq_true, implies_true]
   exact .inr (bad (.inl hno))
  ·simp only [J12_4, wp, Sum.elim_inl, Sum.elim_inr, ne_eq, ge_iff_le, gt_iff_lt, reduceCtorEq, forall_const, Bool.true_eq_false, Bool.false_eq_true, implies_true]
   exact .inr (bad (.inr ⟨hyes, hno⟩))
  ·refine Ret.mono (F34_ok hU hyes) fun r1 _ ⟨hr1, hU1⟩ => Ret.mono (F34_ok hU1 hyes2) fun r2 _ ⟨hr2, hU2⟩ => ?_
   have hvn : v.toNat < p.1.length := by have := hyes.1; have := hyes.2; omega
   have hwn : w.toNat < p.1.length := by have := hyes2.1; have := hyes2.2; omega
   obtain ⟨o1, ho1⟩ : ∃ v', one[v.toNat]? = some v' := ⟨_, List.getElem?_eq_getElem (by rw [hP.1]; exact hvn)⟩
   obtain ⟨o2, ho2⟩ : ∃ v', one[w.toNat]? = some v' := ⟨_, List.getElem?_eq_getElem (by rw [hP.1]; exact hwn)⟩
   have g1 : gI one v = some o1 := by unfold gI; rw [if_pos hyes.1]; exact ho1
   have g2 : gI one w = some o2 := by unfold gI; rw [if_pos hyes2.1]; exact ho2
   have hpt := hP.2 v.toNat w.toNat hvn hwn
   rw [ho1, ho2] at hpt
   have heq : (r1.1 != r2.1) = (o1 != o2) := by
    rw [hr1, hr2]
    by_cases e : rep v.toNat = rep w.toNat
    ·have := Option.some.inj (hpt.1 e)
     simp [e, this]
    ·have ho : o1 ≠ o2 := fun h => e (hpt.2 (by rw [h]))
     have e' : ((rep v.toNat : Nat) : Int) ≠ ((rep w.toNat : Nat) : Int) := by omega
     rw [bne_iff_ne.2 ho, bne_iff_ne.2 e']
   rw [heq]
   by_cases e : o1 = o2
   ·subst e
    simp only [bne_self_eq_false, J12_4, wp, Sum.elim_inl, Sum.elim_inr, ne_eq, ge_iff_le, gt_iff_lt, reduceCtorEq, forall_const, Bool.true_eq_false, Bool.false_eq_true, implies_true, hwk]
    refine ⟨⟨k + 1, rfl, by omega, hU2, ?_⟩, by omega⟩
    rw [hloop]
    refine loopL_next (Ret.eq ?_)
    simp only [L57_1, wp, Sum.elim_inl, Sum.elim_inr, ne_eq, ge_iff_le, gt_iff_lt, reduceCtorEq, forall_const, Bool.true_eq_false, Bool.false_eq_true, implies_true, ret_eq gv', ret_eq gw, F39_eq, hyes, hyes2, ret_eq g1, ret_eq g2, bne_self_eq_false, J57_2, hwk]
    exact fun h => absurd hlt (by omega)
   ·have hb : (o1 != o2) = true := by simp [e]
    rw [hb]
    simp only [J12_4, wp, Sum.elim_inl, Sum.elim_inr, ne_eq, ge_iff_le, gt_iff_lt, reduceCtorEq, forall_const, Bool.true_eq_false, Bool.false_eq_true, implies_true]
    refine .inr ?_
    rw [hloop]
    refine loopL_end (Ret.eq ?_)
    simp only [L57_1, wp, Sum.elim_inl, Sum.elim_inr, ne_eq, ge_iff_le, gt_iff_lt, reduceCtorEq, forall_const, Bool.true_eq_false, Bool.false_eq_true, implies_true, ret_eq gv', ret_eq gw, F39_eq, hyes, hyes2, ret_eq g1, ret_eq g2, hb, J57_2]
    exact ⟨fun _ h => absurd h e, fun h => absurd hlt (by omega)⟩
 ·refine .inl ⟨?_, u, rfl, hU⟩
  rw [hloop]
  refine loopL_end (Ret.eq ?_)
  simp only [L57_1, wp, Sum.elim_inl, Sum.elim_inr, ne_eq, ge_iff_le, gt_iff_lt, reduceCtorEq, forall_const, Bool.true_eq_false, Bool.false_eq_true, implies_true]
  exact fun h => absurd h (by omega)
theorem connects_eq : ∃ r, F12 p = some r ∧ F19 p = some r := by
 have hN := hp.n.n
 have hsl := hp.sl
 suffices h : Ret (F12 p) fun r => F19 p = some r by
  obtain ⟨r, h1, h2⟩ := h; exact ⟨r, h1, h2⟩
 have e56 := F56_eq p.1.length (by omega)
 simp only [F12, wp, Sum.elim_inl, Sum.elim_inr, ne_eq, ge_iff_le, gt_iff_lt, reduceCtorEq, forall_const, Bool.true_eq_false, Bool.false_eq_true, implies_true]
 refine ⟨fun _ => ?_, fun h => absurd h (by omega)⟩
 refine ret_loop (fun q : Int × List Int => ∃ i : Nat, q.1 = i ∧ i ≤ p.1.length ∧ q.2.length = p.1.length ∧ ∀ j, j < i → q.2[j]? = some (j : Int)) (fun q => p.1.length - q.1.toNat) ?_ _ ⟨0, rfl, by omega, by simp, fun j hj => by omega⟩
 rintro ⟨i', c⟩ ⟨i, e, hi, hl', h1⟩
 dsimp only at e hl' h1
 subst e
 simp only [L12_1, List.length_replicate, Int.toNat_natCast, wp, Sum.elim_inl, Sum.elim_inr, ne_eq, ge_iff_le, gt_iff_lt, reduceCtorEq, forall_const, Bool.true_eq_false, Bool.false_eq_true, implies_true]
 refine ⟨fun hlt => ret_gI (by omega) (by omega) fun y hy _ => ?_, fun hge => ?_⟩
 ·have hw := wrap_succ i (by omega)
  simp only [ret_eq hy, wp, Sum.elim_inl, Sum.elim_inr, ne_eq, ge_iff_le, gt_iff_lt, reduceCtorEq, forall_const, Bool.true_eq_false, Bool.false_eq_true, implies_true, hw, setI_nat]
  refine ⟨⟨i + 1, rfl, by omega, by simp [hl'], fun j hj' => ?_⟩, by omega⟩
  by_cases e : i = j
  ·subst e; rw [List.getElem?_set_self (by omega)]
  ·rw [List.getElem?_set_ne e]; exact h1 j (by omega)
 ·have hid : c = idL p.1.length := by
   apply List.ext_getElem?
   intro j
   by_cases hj : j < p.1.length
   ·rw [h1 j (by omega), idL_at hj]
   ·rw [List.getElem?_eq_none (by omega), List.getElem?_eq_none (by rw [idL_len]; omega)]
  subst hid
  -- the steps
  refine ret_loop (fun q : Int × List Int => ∃ (i : Nat) (rep : Nat → Nat) (one : List Int), q.1 = i ∧ i ≤ p.2.1.length ∧ UFr p.1.length rep q.2 ∧ Pt p.1.length rep one ∧ F43 p.1 p.2.1 = loopL (L43_1 p.1 p.2.1) ((i : Int), one)) (fun q => p.2.1.length - q.1.toNat) ?_ _ ⟨0, _, _, rfl, by omega, uf_id _, pt_id _, by rw [F43, e56]; rfl⟩
  rintro ⟨i', u⟩ ⟨i, rep, one, e, hi, hU, hP, hF⟩
  dsimp only at e hU hF
  subst e
  simp only [L12_2, wp, Sum.elim_inl, Sum.elim_inr, ne_eq, ge_iff_le, gt_iff_lt, reduceCtorEq, forall_const, Bool.true_eq_false, Bool.false_eq_true, implies_true]
  refine ⟨fun hlt => ret_gI (by omega) hlt fun x hx hxm => ?_, fun hge => ?_⟩
  ·have hw := wrap_succ i (by omega)
   have stop : L43_1 p.1 p.2.1 ((i : Int), one) = some (.inr ([], false)) → F19 p = some false := fun h => by
    refine Ret.eq ?_
    rw [loopL_end h] at hF
    simp only [F19, hF, J19_1, wp, Sum.elim_inl, Sum.elim_inr, ne_eq, ge_iff_le, gt_iff_lt, reduceCtorEq, forall_const, Bool.true_eq_false, Bool.false_eq_true, implies_true]
   have ref : ∀ b, F41 p.1 x = some true → (x.2.2.1 = 0 → F57 p.1 one x.1 x.2.1 = some b) → (x.2.2.1 ≠ 0 → b = true) → ∀ one', (b = true → F58 x.1 x.2.1 one = some one') → L43_1 p.1 p.2.1 ((i : Int), one) = if b then some (.inl (((i + 1 : Nat) : Int), one')) else some (.inr ([], false)) := fun b h41 h57 hb one' h58 => by
    have key : Ret (L43_1 p.1 p.2.1 ((i : Int), one)) fun r => r = if b then .inl (((i + 1 : Nat) : Int), one') else .inr ([], false) := by
     simp only [L43_1, wp, Sum.elim_inl, Sum.elim_inr, ne_eq, ge_iff_le, gt_iff_lt, reduceCtorEq, forall_const, Bool.true_eq_false, Bool.false_eq_true, implies_true, ret_eq hx, h41]
     refine ⟨fun _ => ⟨fun hwhy => ?_, fun hwhy => ?_⟩, fun h => absurd hlt (by omega)⟩
     ·rw [h57 hwhy]
      cases b with
      | false => simp only [J43_1, wp, Sum.elim_inl, Sum.elim_inr, ne_eq, ge_iff_le, gt_iff_lt, reduceCtorEq, forall_const, Bool.true_eq_false, Bool.false_eq_true, implies_true]; rfl
      | true => simp only [J43_1, wp, Sum.elim_inl, Sum.elim_inr, ne_eq, ge_iff_le, gt_iff_lt, reduceCtorEq, forall_const, Bool.true_eq_false, Bool.false_eq_true, implies_true, h58 rfl, hw]; rfl
     ·have := hb hwhy
      subst this
      simp only [J43_1, wp, Sum.elim_inl, Sum.elim_inr, ne_eq, ge_iff_le, gt_iff_lt, reduceCtorEq, forall_const, Bool.true_eq_false, Bool.false_eq_true, implies_true, h58 rfl, hw]; rfl
    rw [key.eq]
    cases b <;> rfl
   have nedge : ¬ (inR p.1.length x.1 ∧ inR p.1.length x.2.1) → F19 p = some false := fun hno => stop (Ret.eq (by
    simp only [L43_1, wp, Sum.elim_inl, Sum.elim_inr, ne_eq, ge_iff_le, gt_iff_lt, reduceCtorEq, forall_const, Bool.true_eq_false, Bool.false_eq_true, implies_true, ret_eq hx, F41_eq]
    refine ⟨fun _ => ⟨fun _ => ?_, fun h => absurd h hno⟩, fun h => absurd hlt (by omega)⟩
    simp only [J43_1, wp, Sum.elim_inl, Sum.elim_inr, ne_eq, ge_iff_le, gt_iff_lt, reduceCtorEq, forall_const, Bool.true_eq_false, Bool.false_eq_true, implies_true]))
   simp only [F26_eq, wp, Sum.elim_inl, Sum.elim_inr, ne_eq, ge_iff_le, gt_iff_lt, reduceCtorEq, forall_const, Bool.true_eq_false, Bool.false_eq_true, implies_true]
   refine ⟨fun hno => ?_, fun hL => ?_⟩
   ·simp only [J12_1, wp, Sum.elim_inl, Sum.elim_inr, ne_eq, ge_iff_le, gt_iff_lt, reduceCtorEq, forall_const, Bool.true_eq_false, Bool.false_eq_true, implies_true]
    exact nedge fun h => hno h.1
   ·by_cases hR : inR p.1.length x.2.1
    ·have h41 : F41 p.1 x = some true := by rw [F41_eq]; simp [hL, hR]
     have hLn : x.1.toNat < p.1.length := by have := hL.1; have := hL.2; omega
     have hRn : x.2.1.toNat < p.1.length := by have := hR.1; have := hR.2; omega
     obtain ⟨o1, ho1⟩ : ∃ v', one[x.1.toNat]? = some v' := ⟨_, List.getElem?_eq_getElem (by rw [hP.1]; exact hLn)⟩
     obtain ⟨o2, ho2⟩ : ∃ v', one[x.2.1.toNat]? = some v' := ⟨_, List.getElem?_eq_getElem (by rw [hP.1]; exact hRn)⟩
     have g1 : gI one x.1 = some o1 := by unfold gI; rw [if_pos hL.1]; exact ho1
     have g2 : gI one x.2.1 = some o2 := by unfold gI; rw [if_pos hR.1]; exact ho2
     have h58 := F58_eq (by rw [hP.1]; omega) g1 g2
     -- the two become one
     have go : ∀ u', UFr p.1.length rep u' → L43_1 p.1 p.2.1 ((i : Int), one) = some (.inl (((i + 1 : Nat) : Int), joinM one o1 o2)) → Ret (J12_2 (i : Int) x u') (StepQ (fun q : Int × List Int => ∃ (i : Nat) (rep : Nat → Nat) (one : List Int), q.1 = i ∧ i ≤ p.2.1.length ∧ UFr p.1.length rep q.2 ∧ Pt p.1.length rep one ∧ F43 p.1 p.2.1 = loopL (L43_1 p.1 p.2.1) ((i : Int), one)) (fun q => p.2.1.length - q.1.toNat) (fun r => F19 p = some r) ((i : Int), u)) := fun u' hU' hstep => by
      simp only [J12_2, wp, Sum.elim_inl, Sum.elim_inr, ne_eq, ge_iff_le, gt_iff_lt, reduceCtorEq, forall_const, Bool.true_eq_false, Bool.false_eq_true, implies_true]
      refine Ret.mono (F34_ok hU' hL) fun r1 _ ⟨hr1, hU1⟩ => Ret.mono (F34_ok hU1 hR) fun r2 _ ⟨hr2, hU2⟩ => ?_
      have hrl : rep x.1.toNat < r2.2.length := by
       obtain ⟨rk, B, U⟩ := hU2
       rw [U.len]; exact (U.rl _ hLn).1
      rw [hr1, hr2]
      refine ret_gI (by omega) (by omega) fun y hy _ => ?_
      simp only [ret_eq hy, hw, setI_nat]
      refine ⟨⟨i + 1, _, _, rfl, by omega, hU2.union hLn hRn, hP.join hLn hRn ho1 ho2, ?_⟩, by omega⟩
      rw [hF, loopL_next hstep]
     simp only [hR, wp, Sum.elim_inl, Sum.elim_inr, ne_eq, ge_iff_le, gt_iff_lt, reduceCtorEq, forall_const, Bool.true_eq_false, Bool.false_eq_true, implies_true, J12_1]
     refine ⟨fun hwhy => ?_, fun hwhy => ?_⟩
     ·obtain ⟨y, hy, hym⟩ := gI_ok hL.1 hL.2
      obtain ⟨z, hz, hzm⟩ := gI_ok hR.1 hR.2
      simp only [ret_eq hy, ret_eq hz]
      have h57f : ∀ c, (y.1 = z.1 → y.2.1 = z.2.1 → y.2.2.length = z.2.2.length → False) → c = false → F57 p.1 one x.1 x.2.1 = some c := fun c hne hc => by
       subst hc
       refine Ret.eq ?_
       simp only [F57, ret_eq hy, ret_eq hz, wp, Sum.elim_inl, Sum.elim_inr, ne_eq, ge_iff_le, gt_iff_lt, reduceCtorEq, forall_const, Bool.true_eq_false, Bool.false_eq_true, implies_true, J57_1]
       exact fun h1 h2 h3 => absurd (hne h1 h2 (by omega)) (fun h => h)
      have fin : (y.1 = z.1 → y.2.1 = z.2.1 → y.2.2.length = z.2.2.length → False) → F19 p = some false := fun hne => stop (by
       have := ref false h41 (fun _ => h57f false hne rfl) (fun h => absurd hwhy h) [] (fun h => (by cases h))
       rw [this]; rfl)
      refine ⟨fun hne => ?_, fun h1 => ⟨fun hne => ?_, fun h2 => ?_⟩⟩
      ·simp only [J12_3, wp, Sum.elim_inl, Sum.elim_inr, ne_eq, ge_iff_le, gt_iff_lt, reduceCtorEq, forall_const, Bool.true_eq_false, Bool.false_eq_true, implies_true]
       exact fin fun h => absurd h hne
      ·simp only [J12_3, wp, Sum.elim_inl, Sum.elim_inr, ne_eq, ge_iff_le, gt_iff_lt, reduceCtorEq, forall_const, Bool.true_eq_false, Bool.false_eq_true, implies_true]
       exact fin fun _ h => absurd h hne
      ·by_cases h3 : (y.2.2.length : Int) = (z.2.2.length : Int)
       ·have hb3 : ((y.2.2.length : Int) != (z.2.2.length : Int)) = false := by simp; omega
        rw [hb3]
        simp only [J12_3, wp, Sum.elim_inl, Sum.elim_inr, ne_eq, ge_iff_le, gt_iff_lt, reduceCtorEq, forall_const, Bool.true_eq_false, Bool.false_eq_true, implies_true]
        refine Ret.mono (kids_ok hp hP hU y z (hp.n.k y hym) (by omega)) fun r _ hr => ?_
        have h57 : ∀ c, loopL (L57_1 p.1 one y z) 0 = some c → F57 p.1 one x.1 x.2.1 = some c := fun c hc => by
         refine Ret.eq ?_
         simp only [F57, ret_eq hy, ret_eq hz, wp, Sum.elim_inl, Sum.elim_inr, ne_eq, ge_iff_le, gt_iff_lt, reduceCtorEq, forall_const, Bool.true_eq_false, Bool.false_eq_true, implies_true, J57_1]
         exact ⟨fun h => absurd h1 h, fun _ => ⟨fun h => absurd h2 h, fun _ => ⟨fun h => absurd h3 h, fun _ => by rw [hc, ret_some]⟩⟩⟩
        rcases hr with ⟨hc, u', rfl, hU'⟩ | ⟨hc, rfl⟩
        ·simp only [wp, Sum.elim_inl, Sum.elim_inr, ne_eq, ge_iff_le, gt_iff_lt, reduceCtorEq, forall_const, Bool.true_eq_false, Bool.false_eq_true, implies_true]
         refine go u' hU' ?_
         have := ref true h41 (fun _ => h57 true hc) (fun _ => rfl) (joinM one o1 o2) (fun _ => h58)
         rw [this]; rfl
        ·simp only [wp, Sum.elim_inl, Sum.elim_inr, ne_eq, ge_iff_le, gt_iff_lt, reduceCtorEq, forall_const, Bool.true_eq_false, Bool.false_eq_true, implies_true]
         refine stop ?_
         have := ref false h41 (fun _ => h57 false hc) (fun h => absurd hwhy h) [] (fun h => (by cases h))
         rw [this]; rfl
       ·have hb3 : ((y.2.2.length : Int) != (z.2.2.length : Int)) = true := by simp; omega
        rw [hb3]
        simp only [J12_3, wp, Sum.elim_inl, Sum.elim_inr, ne_eq, ge_iff_le, gt_iff_lt, reduceCtorEq, forall_const, Bool.true_eq_false, Bool.false_eq_true, implies_true]
        exact fin fun _ _ h => absurd h (by omega)
     ·refine go u hU ?_
      have := ref true h41 (fun h => absurd h hwhy) (fun _ => rfl) (joinM one o1 o2) (fun _ => h58)
      rw [this]; rfl
    ·simp only [hR, wp, Sum.elim_inl, Sum.elim_inr, ne_eq, ge_iff_le, gt_iff_lt, reduceCtorEq, forall_const, Bool.true_eq_false, Bool.false_eq_true, implies_true, J12_1]
     exact nedge fun h => hR h.2
  ·have hend : L43_1 p.1 p.2.1 ((i : Int), one) = some (.inr (one, true)) := Ret.eq (by
    simp only [L43_1, wp, Sum.elim_inl, Sum.elim_inr, ne_eq, ge_iff_le, gt_iff_lt, reduceCtorEq, forall_const, Bool.true_eq_false, Bool.false_eq_true, implies_true]
    exact fun h => absurd h (by omega))
   rw [loopL_end hend] at hF
   have ref : F19 p = if inR p.1.length p.2.2.1 ∧ inR p.1.length p.2.2.2 then (gI one p.2.2.1).bind fun x => (gI one p.2.2.2).bind fun y => some (x == y) else some false := by
    simp only [F19, hF, F39_eq, J19_1]
    by_cases h1 : inR p.1.length p.2.2.1
    ·by_cases h2 : inR p.1.length p.2.2.2
     ·rw [if_pos ⟨h1, h2⟩]
      simp only [h1, h2, decide_true, Option.bind_some, cond_true]
      obtain ⟨x, hx, _⟩ := gI_ok (l := one) h1.1 (by rw [hP.1]; exact h1.2)
      obtain ⟨y, hy, _⟩ := gI_ok (l := one) h2.1 (by rw [hP.1]; exact h2.2)
      rw [hx, hy]; rfl
     ·rw [if_neg (fun h => h2 h.2)]
      simp [h1, h2, Option.bind, J19_1]
    ·rw [if_neg (fun h => h1 h.1)]
     simp [h1, Option.bind, J19_1]
   simp only [F26_eq, wp, Sum.elim_inl, Sum.elim_inr, ne_eq, ge_iff_le, gt_iff_lt, reduceCtorEq, forall_const, Bool.true_eq_false, Bool.false_eq_true, implies_true, J12_5]
   refine ⟨fun hA => ⟨fun hB => ?_, fun hB => by rw [ref, if_neg (fun h => hB h.2)]⟩, fun hA => by rw [ref, if_neg (fun h => hA h.1)]⟩
   refine Ret.mono (F34_ok hU hA) fun r1 _ ⟨hr1, hU1⟩ => Ret.mono (F34_ok hU1 hB) fun r2 _ ⟨hr2, hU2⟩ => ?_
   have hAn : p.2.2.1.toNat < p.1.length := by have := hA.1; have := hA.2; omega
   have hBn : p.2.2.2.toNat < p.1.length := by have := hB.1; have := hB.2; omega
   obtain ⟨o1, ho1⟩ : ∃ v', one[p.2.2.1.toNat]? = some v' := ⟨_, List.getElem?_eq_getElem (by rw [hP.1]; exact hAn)⟩
   obtain ⟨o2, ho2⟩ : ∃ v', one[p.2.2.2.toNat]? = some v' := ⟨_, List.getElem?_eq_getElem (by rw [hP.1]; exact hBn)⟩
   have g1 : gI one p.2.2.1 = some o1 := by unfold gI; rw [if_pos hA.1]; exact ho1
   have g2 : gI one p.2.2.2 = some o2 := by unfold gI; rw [if_pos hB.1]; exact ho2
   have hpt := hP.2 _ _ hAn hBn
   rw [ho1, ho2] at hpt
   rw [ref, if_pos ⟨hA, hB⟩, g1, g2, hr1, hr2]
   simp only [Option.bind_some, Option.some.injEq]
   by_cases e : rep p.2.2.1.toNat = rep p.2.2.2.toNat
   ·have := Option.some.inj (hpt.1 e)
    simp [e, this]
   ·have ho : o1 ≠ o2 := fun h => e (hpt.2 (by rw [h]))
    have e' : ((rep p.2.2.1.toNat : Nat) : Int) ≠ ((rep p.2.2.2.toNat : Nat) : Int) := by omega
    rw [beq_eq_false_iff_ne.2 ho, beq_eq_false_iff_ne.2 e']
end
end Go.Dat
/-
 Copies, comparisons, Minimize.
-/
namespace Go.Dat
open Go.Eng
set_option linter.unusedSimpArgs false
set_option linter.unusedVariables false

theorem F48_self (a : NodeT) (ha : a.2.2.length ≤ 1000000) : F48 a a = some true := by
 refine Ret.eq ?_
 simp only [F48, J48_1, wp, Sum.elim_inl, Sum.elim_inr, ne_eq, ge_iff_le, gt_iff_lt, reduceCtorEq, forall_const, Bool.true_eq_false, Bool.false_eq_true, implies_true]
 refine ret_loop (fun i : Int => ∃ n : Nat, i = n ∧ n ≤ a.2.2.length) (fun i => a.2.2.length - i.toNat) ?_ _ ⟨0, rfl, by omega⟩
 rintro _ ⟨n, rfl, hn⟩
 simp only [L48_1, wp, Sum.elim_inl, Sum.elim_inr, ne_eq, ge_iff_le, gt_iff_lt, reduceCtorEq, forall_const, Bool.true_eq_false, Bool.false_eq_true, implies_true]
 refine fun hlt => ret_gI (by omega) hlt fun y hy hm => ?_
 have hw := wrap_succ n (by omega)
 simp only [ret_eq hy, wp, Sum.elim_inl, Sum.elim_inr, ne_eq, ge_iff_le, gt_iff_lt, reduceCtorEq, forall_const, Bool.true_eq_false, Bool.false_eq_true, implies_true, hw]
 exact ⟨⟨n + 1, rfl, by omega⟩, by omega⟩
theorem F24_self (l : List NodeT) (h : Small l) : F24 l l = some true := by
 have hN := h.n
 refine Ret.eq ?_
 simp only [F24, wp, Sum.elim_inl, Sum.elim_inr, ne_eq, ge_iff_le, gt_iff_lt, reduceCtorEq, forall_const, Bool.true_eq_false, Bool.false_eq_true, implies_true]
 refine ret_loop (fun i : Int => ∃ n : Nat, i = n ∧ n ≤ l.length) (fun i => l.length - i.toNat) ?_ _ ⟨0, rfl, by omega⟩
 rintro _ ⟨n, rfl, hn⟩
 simp only [L24_1, wp, Sum.elim_inl, Sum.elim_inr, ne_eq, ge_iff_le, gt_iff_lt, reduceCtorEq, forall_const, Bool.true_eq_false, Bool.false_eq_true, implies_true]
 refine fun hlt => ret_gI (by omega) hlt fun y hy hm => ?_
 have hw := wrap_succ n (by omega)
 have hk := h.k y hm
 simp only [ret_eq hy, F48_self y (by omega), wp, Sum.elim_inl, Sum.elim_inr, ne_eq, ge_iff_le, gt_iff_lt, reduceCtorEq, forall_const, Bool.true_eq_false, Bool.false_eq_true, implies_true, hw]
 exact ⟨⟨n + 1, rfl, by omega⟩, by omega⟩
theorem F25_self (l : List StepT) (hl : l.length ≤ 1000000) (h : ∀ x ∈ l, x.2.2.2.1.length ≤ 1000 ∧ x.2.2.2.2.length ≤ 1000) : F25 l l = some true := by
 refine Ret.eq ?_
 simp only [F25, wp, Sum.elim_inl, Sum.elim_inr, ne_eq, ge_iff_le, gt_iff_lt, reduceCtorEq, forall_const, Bool.true_eq_false, Bool.false_eq_true, implies_true]
 refine ret_loop (fun i : Int => ∃ n : Nat, i = n ∧ n ≤ l.length) (fun i => l.length - i.toNat) ?_ _ ⟨0, rfl, by omega⟩
 rintro _ ⟨n, rfl, hn⟩
 simp only [L25_1, wp, Sum.elim_inl, Sum.elim_inr, ne_eq, ge_iff_le, gt_iff_lt, reduceCtorEq, forall_const, Bool.true_eq_false, Bool.false_eq_true, implies_true]
 refine fun hlt => ret_gI (by omega) hlt fun y hy hm => ?_
 have hw := wrap_succ n (by omega)
 have hk := h y hm
 simp only [ret_eq hy, F10_self y.2.2.2.1 (by omega), J25_1, wp, Sum.elim_inl, Sum.elim_inr, ne_eq, ge_iff_le, gt_iff_lt, reduceCtorEq, forall_const, Bool.true_eq_false, Bool.false_eq_true, implies_true, hw]
 refine ret_loop (fun i : Int => ∃ n : Nat, i = n ∧ n ≤ y.2.2.2.2.length) (fun i => y.2.2.2.2.length - i.toNat) ?_ _ ⟨0, rfl, by omega⟩
 rintro _ ⟨m, rfl, hm'⟩
 have hwm := wrap_succ m (by omega)
 simp only [L25_2, wp, Sum.elim_inl, Sum.elim_inr, ne_eq, ge_iff_le, gt_iff_lt, reduceCtorEq, forall_const, Bool.true_eq_false, Bool.false_eq_true, implies_true, hw]
 refine ⟨fun hlt2 => ret_gI (by omega) hlt2 fun z hz _ => ?_, fun _ => ⟨⟨n + 1, rfl, by omega⟩, by show l.length - (((n + 1 : Nat) : Int)).toNat < l.length - ((n : Int)).toNat; omega⟩⟩
 simp only [ret_eq hz, wp, Sum.elim_inl, Sum.elim_inr, ne_eq, ge_iff_le, gt_iff_lt, reduceCtorEq, forall_const, Bool.true_eq_false, Bool.false_eq_true, implies_true, hwm]
 exact ⟨⟨m + 1, rfl, by omega⟩, by omega⟩
theorem F18_self {p : ProofT} (h : SmallP p) : F18 p p = some true := by
 have := h.sl
 refine Ret.eq ?_
 simp only [F18, F24_self p.1 h.n, F25_self p.2.1 (by omega) h.v, J18_1, wp, Sum.elim_inl, Sum.elim_inr, ne_eq, ge_iff_le, gt_iff_lt, reduceCtorEq, forall_const, Bool.true_eq_false, Bool.false_eq_true, implies_true]

theorem take_at {α : Type} {l : List α} {i : Nat} {x : α} (h : l[i]? = some x) : l.take (i + 1) = l.take i ++ [x] := by rw [List.take_add_one, h]; rfl
theorem F44_eq {p : ProofT} (h : SmallP p) : F44 p = some p := by
 have hN := h.n.n
 have hsl := h.sl
 refine Ret.eq ?_
 unfold F44
 refine ret_loop (fun q : Int × Int × Int × Int × Int × List NodeT => ∃ i : Nat, i ≤ p.1.length ∧ q = ((i : Int), 0, 0, p.2.2.1, p.2.2.2, p.1.take i)) (fun q => p.1.length - q.1.toNat) ?_ _ ⟨0, by omega, rfl⟩
 rintro _ ⟨i, hi, rfl⟩
 simp only [L44_1, List.nil_append, List.length_nil, wp, Sum.elim_inl, Sum.elim_inr, ne_eq, ge_iff_le, gt_iff_lt, reduceCtorEq, forall_const, Bool.true_eq_false, Bool.false_eq_true, implies_true]
 refine ⟨fun hlt => ret_gI (by omega) hlt fun y hy hm => ?_, fun hge => ?_⟩
 ·have hk := h.n.k y hm
  have hw := wrap_succ i (by omega)
  rw [gI_nat] at hy
  rw [hw]
  refine ⟨fun _ => ⟨fun _ => ⟨⟨i + 1, by omega, by rw [take_at hy]⟩, by omega⟩, fun h => absurd h (by simp; omega)⟩, fun h => absurd h (by omega)⟩
 ·have : i = p.1.length := by omega
  subst this
  refine ret_loop (fun q : Int × Int × Int × Int × Int × List NodeT × List StepT => ∃ i : Nat, i ≤ p.2.1.length ∧ q = ((i : Int), 0, 0, p.2.2.1, p.2.2.2, p.1, p.2.1.take i)) (fun q => p.2.1.length - q.1.toNat) ?_ _ ⟨0, by omega, by rw [List.take_length]; rfl⟩
  rintro _ ⟨i, hi, rfl⟩
  simp only [L44_2, List.nil_append, List.length_nil, wp, Sum.elim_inl, Sum.elim_inr, ne_eq, ge_iff_le, gt_iff_lt, reduceCtorEq, forall_const, Bool.true_eq_false, Bool.false_eq_true, implies_true]
  refine ⟨fun hlt => ret_gI (by omega) hlt fun y hy hm => ?_, fun hge => ?_⟩
  ·have hk := h.v y hm
   have hw := wrap_succ i (by omega)
   rw [gI_nat] at hy
   rw [hw]
   refine ⟨fun _ => ⟨fun _ => ⟨fun _ => ⟨⟨i + 1, by omega, by rw [take_at hy]⟩, by omega⟩, fun h => absurd h (by simp; omega)⟩, fun h => absurd h (by omega)⟩, fun h => absurd h (by omega)⟩
  ·have : i = p.2.1.length := by omega
   subst this
   rw [List.take_length]
theorem F45_eq {p : ProofT} (h : SmallP p) : F45 p = some p := by
 have hN := h.n.n
 have hsl := h.sl
 refine Ret.eq ?_
 unfold F45
 refine ret_loop (fun q : Int × Int × Int × Int × Int × List NodeT => ∃ i : Nat, i ≤ p.1.length ∧ q = ((i : Int), 0, 0, p.2.2.1, p.2.2.2, p.1.take i)) (fun q => p.1.length - q.1.toNat) ?_ _ ⟨0, by omega, rfl⟩
 rintro _ ⟨i, hi, rfl⟩
 simp only [L45_1, wp, Sum.elim_inl, Sum.elim_inr, ne_eq, ge_iff_le, gt_iff_lt, reduceCtorEq, forall_const, Bool.true_eq_false, Bool.false_eq_true, implies_true]
 refine ⟨fun hlt => ret_gI (by omega) hlt fun y hy hm => ?_, fun hge => ?_⟩
 ·have hk := h.n.k y hm
  have hw := wrap_succ i (by omega)
  rw [gI_nat] at hy
  rw [hw]
  refine ⟨fun _ => ⟨fun _ => ⟨⟨i + 1, by omega, by rw [take_at hy]⟩, by omega⟩, fun h => absurd h (by simp; omega)⟩, fun h => absurd h (by omega)⟩
 ·have : i = p.1.length := by omega
  subst this
  refine ret_loop (fun q : Int × Int × Int × Int × Int × List NodeT × List StepT => ∃ i : Nat, i ≤ p.2.1.length ∧ q = ((i : Int), 0, 0, p.2.2.1, p.2.2.2, p.1, p.2.1.take i)) (fun q => p.2.1.length - q.1.toNat) ?_ _ ⟨0, by omega, by rw [List.take_length]; rfl⟩
  rintro _ ⟨i, hi, rfl⟩
  simp only [L45_2, wp, Sum.elim_inl, Sum.elim_inr, ne_eq, ge_iff_le, gt_iff_lt, reduceCtorEq, forall_const, Bool.true_eq_false, Bool.false_eq_true, implies_true]
  refine ⟨fun hlt => ret_gI (by omega) hlt fun y hy hm => ?_, fun hge => ?_⟩
  ·have hk := h.v y hm
   have hw := wrap_succ i (by omega)
   rw [gI_nat] at hy
   rw [hw]
   refine ⟨fun _ => ⟨fun _ => ⟨fun _ => ⟨⟨i + 1, by omega, by rw [take_at hy]⟩, by omega⟩, fun h => absurd h (by simp; omega)⟩, fun h => absurd h (by omega)⟩, fun h => absurd h (by omega)⟩
  ·have : i = p.2.1.length := by omega
   subst this
   rw [List.take_length]
def delS (l : List StepT) (k : Nat) : List StepT := l.take k ++ l.drop (k + 1)
theorem delS_len {l : List StepT} {k : Nat} (h : k < l.length) : (delS l k).length = l.length - 1 := by
 simp [delS]; omega
theorem delS_mem {l : List StepT} {k : Nat} {x : StepT} (h : x ∈ delS l k) : x ∈ l := by
 rcases List.mem_append.1 h with h | h
 ·exact List.mem_of_mem_take h
 ·exact List.mem_of_mem_drop h
theorem slI_take (l : List StepT) (k : Nat) : slI l 0 (k : Int) = l.take k := by simp [slI]
theorem slI_drop (l : List StepT) (k : Nat) : slI l (k : Int) (l.length : Int) = l.drop k := by
 unfold slI
 rw [List.take_of_length_le (by simp)]
 rfl
theorem minimize_eq {p : ProofT} (h : SmallP p) : ∃ r, F20 p = some r ∧ F21 p = some r ∧ SmallP r := by
 suffices hh : Ret (F20 p) fun r => F21 p = some r ∧ SmallP r by
  obtain ⟨r, h1, h2, h3⟩ := hh; exact ⟨r, h1, h2, h3⟩
 have hsl := h.sl
 obtain ⟨c, e12, e19⟩ := connects_eq h
 simp only [F20, F44_eq h, e12, wp, Sum.elim_inl, Sum.elim_inr, ne_eq, ge_iff_le, gt_iff_lt, reduceCtorEq, forall_const, Bool.true_eq_false, Bool.false_eq_true, implies_true]
 cases c with
 | false =>
  simp only [wp, Sum.elim_inl, Sum.elim_inr, ne_eq, ge_iff_le, gt_iff_lt, reduceCtorEq, forall_const, Bool.true_eq_false, Bool.false_eq_true, implies_true]
  refine ⟨Ret.eq ?_, h⟩
  simp only [F21, F45_eq h, e19, wp, Sum.elim_inl, Sum.elim_inr, ne_eq, ge_iff_le, gt_iff_lt, reduceCtorEq, forall_const, Bool.true_eq_false, Bool.false_eq_true, implies_true]
 | true =>
  have href : F21 p = loopL L21_1 (IntKind.wrap .i64 ((p.2.1.length : Int) - 1), 0, 0, p.1, p.2.2.1, p.2.2.2, p.2.1) := by
   simp only [F21, F45_eq h, e19, Option.bind_some, Bool.not_true, cond_false]
  simp only [wp, Sum.elim_inl, Sum.elim_inr, ne_eq, ge_iff_le, gt_iff_lt, reduceCtorEq, forall_const, Bool.true_eq_false, Bool.false_eq_true, implies_true]
  rw [wrap_id (by omega) (by omega)] at href ⊢
  refine ret_loop (fun q : Int × Int × Int × List NodeT × Int × Int × List StepT => ∃ (k : Int) (st : List StepT), q = (k, 0, 0, p.1, p.2.2.1, p.2.2.2, st) ∧ -1 ≤ k ∧ k < st.length ∧ SmallP (p.1, st, p.2.2.1, p.2.2.2) ∧ F21 p = loopL L21_1 q) (fun q => (q.1 + 1).toNat) ?_ _ ⟨_, _, rfl, by omega, by omega, h, href⟩
  rintro _ ⟨k, st, rfl, k0, k1, hS, hF⟩
  have hst := hS.sl
  dsimp only at hst
  simp only [L20_1, List.nil_append, List.length_nil, Nat.zero_add, wp, Sum.elim_inl, Sum.elim_inr, ne_eq, ge_iff_le, gt_iff_lt, reduceCtorEq, forall_const, Bool.true_eq_false, Bool.false_eq_true, implies_true]
  refine ⟨fun hge => ?_, fun hlt => ?_⟩
  ·obtain ⟨k, rfl⟩ : ∃ n : Nat, k = n := ⟨k.toNat, by omega⟩
   have hw : IntKind.wrap .i64 ((k : Int) + 1) = ((k + 1 : Nat) : Int) := wrap_succ k (by omega)
   have hwm : IntKind.wrap .i64 ((k : Int) - 1) = (k : Int) - 1 := wrap_id (by omega) (by omega)
   have hkl : k < st.length := by omega
   have hdel := delS_len hkl
   have hS' : SmallP (p.1, delS st k, p.2.2.1, p.2.2.2) := ⟨hS.n, fun x hx => hS.v x (delS_mem hx), by dsimp only; omega⟩
   obtain ⟨c', c12, c19⟩ := connects_eq hS'
   have e1 : slI st 0 (k : Int) ++ slI st ((k + 1 : Nat) : Int) (st.length : Int) = delS st k := by rw [slI_take, slI_drop]; rfl
   have step : L21_1 ((k : Int), 0, 0, p.1, p.2.2.1, p.2.2.2, st) = some (.inl ((k : Int) - 1, 0, 0, p.1, p.2.2.1, p.2.2.2, if c' then delS st k else st)) := by
    refine Ret.eq ?_
    simp only [L21_1, wp, Sum.elim_inl, Sum.elim_inr, ne_eq, ge_iff_le, gt_iff_lt, reduceCtorEq, forall_const, Bool.true_eq_false, Bool.false_eq_true, implies_true, hw, e1, c19]
    refine ⟨fun _ => ⟨fun _ => ⟨fun _ => ⟨fun _ => ⟨fun _ => ⟨fun hc => ?_, fun hc => ?_⟩, fun h => absurd h ?_⟩, fun h => absurd h ?_⟩, fun h => absurd h (by omega)⟩, fun h => absurd h (by omega)⟩, fun h => absurd h (by omega)⟩
    ·simp only [J21_1, wp, Sum.elim_inl, Sum.elim_inr, ne_eq, ge_iff_le, gt_iff_lt, reduceCtorEq, forall_const, Bool.true_eq_false, Bool.false_eq_true, implies_true, hwm, hc, if_true]
    ·subst hc
     simp only [J21_1, wp, Sum.elim_inl, Sum.elim_inr, ne_eq, ge_iff_le, gt_iff_lt, reduceCtorEq, forall_const, Bool.true_eq_false, Bool.false_eq_true, implies_true, hwm]; rfl
    ·rw [slI_take, slI_drop]; simp; omega
    ·rw [slI_take]; simp; omega
   simp only [hw, e1, c12, wp, Sum.elim_inl, Sum.elim_inr, ne_eq, ge_iff_le, gt_iff_lt, reduceCtorEq, forall_const, Bool.true_eq_false, Bool.false_eq_true, implies_true]
   refine ⟨fun _ => ⟨fun _ => ⟨fun _ => ⟨fun _ => ⟨fun hc => ?_, fun hc => ?_⟩, fun h => absurd h ?_⟩, fun h => absurd h ?_⟩, fun h => absurd h (by omega)⟩, fun h => absurd h (by omega)⟩
   ·simp only [J20_1, ret_some, stepQ_inl, hwm]
    refine ⟨⟨_, _, rfl, by omega, by omega, hS', ?_⟩, by omega⟩
    rw [hF, loopL_next step, hc]; rfl
   ·simp only [J20_1, ret_some, stepQ_inl, hwm]
    refine ⟨⟨_, _, rfl, by omega, by omega, hS, ?_⟩, by omega⟩
    rw [hF, loopL_next step, hc]; rfl
   ·rw [slI_take, slI_drop]; simp; omega
   ·rw [slI_take]; simp; omega
  ·have hend : L21_1 (k, 0, 0, p.1, p.2.2.1, p.2.2.2, st) = some (.inr (p.1, st, p.2.2.1, p.2.2.2)) := Ret.eq (by
    simp only [L21_1, wp, Sum.elim_inl, Sum.elim_inr, ne_eq, ge_iff_le, gt_iff_lt, reduceCtorEq, forall_const, Bool.true_eq_false, Bool.false_eq_true, implies_true]
    exact fun h => absurd h (by omega))
   exact ⟨by rw [hF, loopL_end hend], hS⟩
end Go.Dat
/-
 Restrict: the program and the reference agree; ExplainProves as a plain function.
-/
namespace Go.Dat
open Go.Eng
set_option linter.unusedSimpArgs false
set_option linter.unusedVariables false

noncomputable abbrev pw (s : SatT) (p : Int × Int) : List Int × Bool := pth s p.1 p.2 (s.2.1.length : Int)
noncomputable def rowsOf (s : SatT) (l : List (Int × Int)) : List Int := l.flatMap fun p => (pw s p).1
def ends (l : List (Int × Int)) (j : Int) : Prop := ∃ p ∈ l, j = p.1 ∨ j = p.2
def RestNo (r : SatT × List (Int × Int) × Bool) : Prop := r = (([], [], [], 0, 0, 0, 0), [], false)
def restR (s : SatT) (pairs : List (Int × Int)) (d : List Int) (B : List Bool) (num : List Int) : SatT × List (Int × Int) × Bool :=
 ((selN s.1 B num s.1.length, d.map (stepAt s.2.1 num), s.2.2.1, trI num s.2.2.2.1, trI num s.2.2.2.2.1, s.2.2.2.2.2.1, s.2.2.2.2.2.2), pairs.map fun p => (trI num p.1, trI num p.2), true)
structure RestQ (s : SatT) (first : Int) (pairs : List (Int × Int)) (r : SatT × List (Int × Int) × Bool) : Prop where
 no : (∃ p ∈ pairs, (pw s p).2 = false) → RestNo r
 yes : (∀ p ∈ pairs, (pw s p).2 = true) → ∃ d B num, F11 s (rowsOf s pairs) = some d ∧ MkQ s.1 (fun j => (ends pairs j ∨ StS s d j) ∨ (0 ≤ j ∧ j < first)) B ∧ NumQ B num ∧ r = restR s pairs d B num
theorem RestQ.uniq {s : SatT} {first : Int} {pairs : List (Int × Int)} {r r' : SatT × List (Int × Int) × Bool} (h : RestQ s first pairs r) (h' : RestQ s first pairs r') : r = r' := by
 by_cases hall : ∀ p ∈ pairs, (pw s p).2 = true
 ·obtain ⟨d, B, num, e, M, N, rfl⟩ := h.yes hall
  obtain ⟨d', B', num', e', M', N', rfl⟩ := h'.yes hall
  rw [e] at e'
  cases e'
  have := M.uniq M'
  subst this
  have := N.uniq N'
  subst this
  rfl
 ·have : ∃ p ∈ pairs, (pw s p).2 = false := by
   refine Classical.byContradiction fun hc => hall fun p hp => ?_
   cases hb : (pw s p).2 with
   | true => rfl
   | false => exact absurd ⟨p, hp, hb⟩ hc
  rw [h.no this, h'.no this]
theorem rows_succ (s : SatT) (l : List (Int × Int)) (i : Nat) (p : Int × Int) (h : l[i]? = some p) : rowsOf s (l.take (i + 1)) = rowsOf s (l.take i) ++ (pw s p).1 := by
 rw [take_at h]; simp [rowsOf]
theorem ends_succ {l : List (Int × Int)} {i : Nat} {p : Int × Int} (h : l[i]? = some p) (j : Int) : ends (l.take (i + 1)) j ↔ ends (l.take i) j ∨ j = p.1 ∨ j = p.2 := by
 rw [take_at h]
 constructor
 ·rintro ⟨q, hq, h1⟩
  rcases List.mem_append.1 hq with hq | hq
  ·exact .inl ⟨q, hq, h1⟩
  ·rw [List.mem_singleton.1 hq] at h1; exact .inr h1
 ·rintro (⟨q, hq, h1⟩ | h1)
  ·exact ⟨q, List.mem_append_left _ hq, h1⟩
  ·exact ⟨p, by simp, h1⟩
theorem mem_take_at {α : Type} {l : List α} {i : Nat} {p x : α} (h : l[i]? = some p) (hx : x ∈ l.take (i + 1)) : x ∈ l.take i ∨ x = p := by
 rw [take_at h] at hx
 rcases List.mem_append.1 hx with h | h
 ·exact .inl h
 ·exact .inr (List.mem_singleton.1 h)

section
variable {s : SatT} (hs : SmallS s)
include hs
theorem pw_eq8 (p : Int × Int) : F8 s p.1 p.2 (s.2.1.length : Int) = some (pw s p) := by
 have := hs.sl; have := hs.n.n
 exact F8_eq s _ _ _ (by omega) (by omega)
theorem pw_eq14 (p : Int × Int) : F14 s p.1 p.2 (s.2.1.length : Int) = some (pw s p) := by
 have := hs.sl; have := hs.n.n
 exact F14_eq s _ _ _ (by omega) (by omega)
theorem pw_says (p : Int × Int) : PathSays s p.1 p.2 (s.2.1.length : Int) (pw s p).1 (pw s p).2 := by
 have := hs.sl; have := hs.n.n
 exact pth_says s _ _ _ (by omega) (by omega)
theorem rows_len (l : List (Int × Int)) : (rowsOf s l).length ≤ l.length * 1000 := by
 induction l with
 | nil => simp [rowsOf]
 | cons p l ih =>
  have h1 := says_len (pw_says hs p)
  have h2 := hs.n.n
  have e : rowsOf s (p :: l) = (pw s p).1 ++ rowsOf s l := rfl
  rw [e, List.length_append, List.length_cons, Nat.succ_mul]
  omega

/-- the program -/
theorem F22_ok (hinv : s.2.2.1.length ≤ 1000) (hva : inR s.1.length s.2.2.2.1) (hst : inR s.1.length s.2.2.2.2.1) (first : Int) (pairs : List (Int × Int)) (hp : pairs.length ≤ 100) : Ret (F22 s first pairs) (RestQ s first pairs) := by
 have hN := hs.n.n
 have hsl := hs.sl
 simp only [F22, wp, Sum.elim_inl, Sum.elim_inr, ne_eq, ge_iff_le, gt_iff_lt, reduceCtorEq, forall_const, Bool.true_eq_false, Bool.false_eq_true, implies_true]
 refine ⟨fun _ => ?_, fun h => absurd h (by omega)⟩
 refine ret_loop (fun q : Int × Int × Int × Int × Int × List Bool × List Int => ∃ (i : Nat) (b : List Bool), i ≤ pairs.length ∧ q = ((i : Int), 0, 0, 0, 0, b, rowsOf s (pairs.take i)) ∧ MkQ s.1 (ends (pairs.take i)) b ∧ ∀ p ∈ pairs.take i, (pw s p).2 = true) (fun q => pairs.length - q.1.toNat) ?_ _ ⟨0, _, by omega, rfl, (mk0 _ rfl).congr fun j _ => ⟨fun h => h.elim, fun ⟨q, hq, _⟩ => absurd hq (by simp)⟩, fun p hp => absurd hp (by simp)⟩
 rintro _ ⟨i, b, hi, rfl, M, hok⟩
 have hrl := rows_len hs (pairs.take i)
 have htl : (pairs.take i).length ≤ 100 := by simp; omega
 simp only [L22_1, wp, Sum.elim_inl, Sum.elim_inr, ne_eq, ge_iff_le, gt_iff_lt, reduceCtorEq, forall_const, Bool.true_eq_false, Bool.false_eq_true, implies_true]
 refine ⟨fun hlt => ret_gI (by omega) hlt fun p hpp hpm => ?_, fun hge => ?_⟩
 ·rw [gI_nat] at hpp
  have hw := wrap_succ i (by omega)
  have says := pw_says hs p
  have hl := says_len says
  rw [pw_eq8 hs p, ret_some]
  refine ⟨fun hno => ⟨fun _ => rfl, fun hall => absurd (hall p hpm) (by rw [hno]; simp)⟩, fun hyes => ⟨fun _ => ?_, fun h => absurd h (by omega)⟩⟩
  refine Ret.mono (F29_ok hs.n M p.1) fun b1 _ M1 => Ret.mono (F29_ok hs.n M1 p.2) fun b2 _ M2 => ?_
  rw [hw]
  refine ⟨⟨i + 1, b2, by omega, by rw [rows_succ s pairs i p hpp], M2.congr fun j _ => ?_, fun q hq => ?_⟩, by show pairs.length - (((i + 1 : Nat) : Int)).toNat < pairs.length - ((i : Int)).toNat; omega⟩
  ·rw [ends_succ hpp, or_assoc]
  ·rcases mem_take_at hpp hq with h | rfl
   ·exact hok q h
   ·exact hyes
 ·have : i = pairs.length := by omega
  subst this
  rw [List.take_length] at M hok hrl htl ⊢
  obtain ⟨d, e11, e16, hd, hdl⟩ := deps_eq hs (rowsOf s pairs) (by omega)
  rw [e11, ret_some]
  refine Ret.mono (F30_ok hs.n (fun x hx => (hs.v x hx).1) M d hd (by omega)) fun b3 _ M3 => ?_
  refine ret_loop (fun q : Int × Int × Int × Int × Int × List Bool => ∃ (k : Nat) (b : List Bool), k ≤ s.1.length ∧ (k = 0 ∨ (k : Int) ≤ first) ∧ q = ((k : Int), 0, 0, 0, 0, b) ∧ MkQ s.1 (fun j => (ends pairs j ∨ StS s d j) ∨ (0 ≤ j ∧ j < k)) b) (fun q => s.1.length - q.1.toNat) ?_ _ ⟨0, b3, by omega, .inl rfl, rfl, M3.congr fun j _ => ⟨.inl, fun h => h.elim id fun h => by omega⟩⟩
  rintro _ ⟨k, b, hk, hkf, rfl, M4⟩
  have hbl := M4.len
  have fin : (k = s.1.length ∨ first ≤ (k : Int)) → Ret (J22_1 s pairs d (k : Int) (false, 0, 0, 0, 0, b)) (StepQ (fun q : Int × Int × Int × Int × Int × List Bool => ∃ (k : Nat) (b : List Bool), k ≤ s.1.length ∧ (k = 0 ∨ (k : Int) ≤ first) ∧ q = ((k : Int), 0, 0, 0, 0, b) ∧ MkQ s.1 (fun j => (ends pairs j ∨ StS s d j) ∨ (0 ≤ j ∧ j < k)) b) (fun q => s.1.length - q.1.toNat) (RestQ s first pairs) ((k : Int), 0, 0, 0, 0, b)) := fun hend => by
   have MF : MkQ s.1 (fun j => (ends pairs j ∨ StS s d j) ∨ (0 ≤ j ∧ j < first)) b := M4.congr fun j hj => or_congr Iff.rfl (by have := hj.1; have := hj.2; omega)
   simp only [J22_1, List.nil_append, List.length_nil, wp, Sum.elim_inl, Sum.elim_inr, ne_eq, ge_iff_le, gt_iff_lt, reduceCtorEq, forall_const, Bool.true_eq_false, Bool.false_eq_true, implies_true]
   refine Ret.mono (F31_ok (b := b) (by omega)) fun num _ N => ?_
   have nl : num.length = s.1.length := by rw [N.len, hbl]
   refine ⟨fun _ => ?_, fun h => absurd h (by omega)⟩
   have g0 : gI (trL ([s.2.2.2.1, s.2.2.2.2.1] : List Int) num) 0 = some (trI num s.2.2.2.1) := rfl
   have g1 : gI (trL ([s.2.2.2.1, s.2.2.2.2.1] : List Int) num) 1 = some (trI num s.2.2.2.2.1) := rfl
   simp only [F32_eq hs hbl nl d hd hdl, F46_eq ([s.2.2.2.1, s.2.2.2.2.1] : List Int) num (by simp), g0, g1, wp, Sum.elim_inl, Sum.elim_inr, ne_eq, ge_iff_le, gt_iff_lt, reduceCtorEq, forall_const, Bool.true_eq_false, Bool.false_eq_true, implies_true]
   refine ret_loop (fun q : Int × Int × Int × Int × Int × List NodeT × List StepT × Int × Int × Int × Int × (List (Int × Int)) × List (Int × Int × Int) => ∃ i : Nat, i ≤ pairs.length ∧ q = ((i : Int), 0, 0, 0, 0, selN s.1 b num s.1.length, d.map (stepAt s.2.1 num), trI num s.2.2.2.1, trI num s.2.2.2.2.1, s.2.2.2.2.2.1, s.2.2.2.2.2.2, (pairs.take i).map (fun p => (trI num p.1, trI num p.2)), s.2.2.1)) (fun q => pairs.length - q.1.toNat) ?_ _ ⟨0, by omega, rfl⟩
   rintro _ ⟨i, hi, rfl⟩
   simp only [L22_3, wp, Sum.elim_inl, Sum.elim_inr, ne_eq, ge_iff_le, gt_iff_lt, reduceCtorEq, forall_const, Bool.true_eq_false, Bool.false_eq_true, implies_true]
   refine ⟨fun hlt => ret_gI (by omega) hlt fun p hpp hpm => ?_, fun hge => ?_⟩
   ·rw [gI_nat] at hpp
    have hw := wrap_succ i (by omega)
    obtain ⟨h1, h2⟩ := says_yes (pw_says hs p) (hok p hpm)
    obtain ⟨v1, k1, _⟩ := gI_ok (l := num) h1.1 (by rw [nl]; exact h1.2)
    obtain ⟨v2, k2, _⟩ := gI_ok (l := num) h2.1 (by rw [nl]; exact h2.2)
    simp only [ret_eq k1, ret_eq k2, wp, Sum.elim_inl, Sum.elim_inr, ne_eq, ge_iff_le, gt_iff_lt, reduceCtorEq, forall_const, Bool.true_eq_false, Bool.false_eq_true, implies_true, hw]
    refine ⟨fun _ => ⟨⟨i + 1, by omega, by rw [take_at hpp, List.map_append, ← gI_tr k1, ← gI_tr k2]; rfl⟩, by omega⟩, fun h => absurd h (by simp; omega)⟩
   ·have : i = pairs.length := by omega
    subst this
    rw [List.take_length]
    refine ⟨fun ⟨p, hp, hf⟩ => absurd (hok p hp) (by rw [hf]; simp), fun _ => ⟨d, b, num, e11, MF, N, rfl⟩⟩
  simp only [L22_2, wp, Sum.elim_inl, Sum.elim_inr, ne_eq, ge_iff_le, gt_iff_lt, reduceCtorEq, forall_const, Bool.true_eq_false, Bool.false_eq_true, implies_true]
  refine ⟨fun hkf' => ?_, fun hkf' => fin (.inr hkf')⟩
  by_cases hkl : k < s.1.length
  ·rw [show decide ((k : Int) < (b.length : Int)) = true by simp; omega]
   simp only [J22_1, wp, Sum.elim_inl, Sum.elim_inr, ne_eq, ge_iff_le, gt_iff_lt, reduceCtorEq, forall_const, Bool.true_eq_false, Bool.false_eq_true, implies_true]
   refine Ret.mono (F29_ok hs.n M4 (k : Int)) fun b5 _ M5 => ?_
   rw [wrap_succ k (by omega)]
   refine ⟨⟨k + 1, b5, by omega, .inr (by omega), rfl, M5.congr fun j hj => ?_⟩, by show s.1.length - (((k + 1 : Nat) : Int)).toNat < s.1.length - ((k : Int)).toNat; omega⟩
   rw [or_assoc]
   exact or_congr Iff.rfl (by have := hj.1; omega)
  ·rw [show decide ((k : Int) < (b.length : Int)) = false by simp; omega]
   exact fin (.inl (by omega))

/-- the reference -/
theorem F23_ok (hinv : s.2.2.1.length ≤ 1000) (hva : inR s.1.length s.2.2.2.1) (hst : inR s.1.length s.2.2.2.2.1) (first : Int) (pairs : List (Int × Int)) (hp : pairs.length ≤ 100) : Ret (F23 s first pairs) (RestQ s first pairs) := by
 have hN := hs.n.n
 have hsl := hs.sl
 have set_iff : ∀ (c : List Bool) (y j : Int), c.length = s.1.length → inR s.1.length y → (gI (setI c y true) j = some true ↔ gI c j = some true ∨ j = y) := fun c y j hc hy => by
  constructor
  ·intro h
   rcases gI_set_inv' hy.1 h with rfl | h
   ·exact .inr rfl
   ·exact .inl h
  ·rintro (h | rfl)
   ·exact gI_set_t' hy.1 (by rw [hc]; exact hy.2) h
   ·exact gI_set true hy.1 (by rw [hc]; exact hy.2)
 simp only [F23, wp, Sum.elim_inl, Sum.elim_inr, ne_eq, ge_iff_le, gt_iff_lt, reduceCtorEq, forall_const, Bool.true_eq_false, Bool.false_eq_true, implies_true]
 refine ⟨fun _ => ?_, fun h => absurd h (by omega)⟩
 refine ret_loop (fun q : Int × Int × Int × Int × Int × List Bool => ∃ (k : Nat) (b : List Bool), k ≤ s.1.length ∧ (k = 0 ∨ (k : Int) ≤ first) ∧ q = ((k : Int), 0, 0, 0, 0, b) ∧ b.length = s.1.length ∧ ∀ j, inR s.1.length j → (gI b j = some true ↔ 0 ≤ j ∧ j < k)) (fun q => s.1.length - q.1.toNat) ?_ _ ⟨0, _, by omega, .inl rfl, rfl, by simp, fun j _ => ⟨fun h => absurd h (rep_f _ _), fun h => by omega⟩⟩
 rintro _ ⟨k, b, hk, hkf, rfl, hbl, hb⟩
 have fin : (k = s.1.length ∨ first ≤ (k : Int)) → Ret (J23_1 s pairs (k : Int) (false, 0, 0, 0, 0, b)) (StepQ (fun q : Int × Int × Int × Int × Int × List Bool => ∃ (k : Nat) (b : List Bool), k ≤ s.1.length ∧ (k = 0 ∨ (k : Int) ≤ first) ∧ q = ((k : Int), 0, 0, 0, 0, b) ∧ b.length = s.1.length ∧ ∀ j, inR s.1.length j → (gI b j = some true ↔ 0 ≤ j ∧ j < k)) (fun q => s.1.length - q.1.toNat) (RestQ s first pairs) ((k : Int), 0, 0, 0, 0, b)) := fun hend => by
  have hb' : ∀ j, inR s.1.length j → (gI b j = some true ↔ 0 ≤ j ∧ j < first) := fun j hj => (hb j hj).trans (by have := hj.1; have := hj.2; omega)
  simp only [J23_1, wp, Sum.elim_inl, Sum.elim_inr, ne_eq, ge_iff_le, gt_iff_lt, reduceCtorEq, forall_const, Bool.true_eq_false, Bool.false_eq_true, implies_true]
  refine ret_loop (fun q : Int × Int × Int × Int × Int × List Bool × List Int => ∃ (i : Nat) (c : List Bool), i ≤ pairs.length ∧ q = ((i : Int), 0, 0, 0, 0, c, rowsOf s (pairs.take i)) ∧ c.length = s.1.length ∧ (∀ j, inR s.1.length j → (gI c j = some true ↔ ends (pairs.take i) j ∨ (0 ≤ j ∧ j < first))) ∧ ∀ p ∈ pairs.take i, (pw s p).2 = true) (fun q => pairs.length - q.1.toNat) ?_ _ ⟨0, b, by omega, rfl, hbl, fun j hj => (hb' j hj).trans ⟨.inr, fun h => h.elim (fun ⟨q, hq, _⟩ => absurd hq (by simp)) id⟩, fun p hp => absurd hp (by simp)⟩
  rintro _ ⟨i, c, hi, rfl, hcl, hc, hok⟩
  have hrl := rows_len hs (pairs.take i)
  have htl : (pairs.take i).length ≤ 100 := by simp; omega
  simp only [L23_2, wp, Sum.elim_inl, Sum.elim_inr, ne_eq, ge_iff_le, gt_iff_lt, reduceCtorEq, forall_const, Bool.true_eq_false, Bool.false_eq_true, implies_true]
  refine ⟨fun hlt => ret_gI (by omega) hlt fun p hpg hpm => ?_, fun hge => ?_⟩
  ·have hpp := hpg
   rw [gI_nat] at hpp
   have hw := wrap_succ i (by omega)
   have says := pw_says hs p
   have hl := says_len says
   simp only [ret_eq hpg, pw_eq14 hs p, wp, Sum.elim_inl, Sum.elim_inr, ne_eq, ge_iff_le, gt_iff_lt, reduceCtorEq, forall_const, Bool.true_eq_false, Bool.false_eq_true, implies_true]
   refine ⟨fun hno => ⟨fun _ => rfl, fun hall => absurd (hall p hpm) (by rw [hno]; simp)⟩, fun hyes => ?_⟩
   obtain ⟨h1, h2⟩ := says_yes says hyes
   obtain ⟨v1, k1, _⟩ := gI_ok (l := c) h1.1 (by rw [hcl]; exact h1.2)
   obtain ⟨v2, k2, _⟩ := gI_ok (l := setI c p.1 true) h2.1 (by rw [setI_len, hcl]; exact h2.2)
   simp only [ret_eq k1, ret_eq k2, wp, Sum.elim_inl, Sum.elim_inr, ne_eq, ge_iff_le, gt_iff_lt, reduceCtorEq, forall_const, Bool.true_eq_false, Bool.false_eq_true, implies_true, hw]
   refine ⟨fun _ => ⟨⟨i + 1, _, by omega, by rw [rows_succ s pairs i p hpp], by simp [setI_len, hcl], fun j hj => ?_, fun q hq => ?_⟩, by omega⟩, fun h => absurd h (by omega)⟩
   ·rw [set_iff _ _ _ (by rw [setI_len, hcl]) h2, set_iff _ _ _ hcl h1, hc j hj, ends_succ hpp]
    constructor
    ·rintro (((h | h) | h) | h)
     ·exact .inl (.inl h)
     ·exact .inr h
     ·exact .inl (.inr (.inl h))
     ·exact .inl (.inr (.inr h))
    ·rintro ((h | h | h) | h)
     ·exact .inl (.inl (.inl h))
     ·exact .inl (.inr h)
     ·exact .inr h
     ·exact .inl (.inl (.inr h))
   ·rcases mem_take_at hpp hq with h | rfl
    ·exact hok q h
    ·exact hyes
  ·have : i = pairs.length := by omega
   subst this
   rw [List.take_length] at hc hok hrl htl ⊢
   refine ⟨fun _ => ?_, fun h => absurd h (by omega)⟩
   obtain ⟨d, e11, e16, hd, hdl⟩ := deps_eq hs (rowsOf s pairs) (by omega)
   rw [e16, ret_some]
   refine Ret.mono (F42_ok hs hcl d hd hdl) fun r _ ⟨B, num, M, N, hr⟩ => ?_
   subst hr
   have MF : MkQ s.1 (fun j => (ends pairs j ∨ StS s d j) ∨ (0 ≤ j ∧ j < first)) B := M.congr fun j hj => by
    rw [hc j hj]
    constructor
    ·rintro ((h | h) | h)
     ·exact .inl (.inl h)
     ·exact .inr h
     ·exact .inl (.inr h)
    ·rintro ((h | h) | h)
     ·exact .inl (.inl h)
     ·exact .inr h
     ·exact .inl (.inr h)
   have nl : num.length = s.1.length := by rw [N.len, M.len]
   have g0 : gI (trL ([s.2.2.2.1] : List Int) num) 0 = some (trI num s.2.2.2.1) := rfl
   have g1 : gI (trL ([s.2.2.2.2.1] : List Int) num) 0 = some (trI num s.2.2.2.2.1) := rfl
   simp only [F47_eq ([s.2.2.2.1] : List Int) num (by simp), F47_eq ([s.2.2.2.2.1] : List Int) num (by simp), g0, g1, wp, Sum.elim_inl, Sum.elim_inr, ne_eq, ge_iff_le, gt_iff_lt, reduceCtorEq, forall_const, Bool.true_eq_false, Bool.false_eq_true, implies_true]
   refine ret_loop (fun q : Int × Int × Int × Int × Int × Int × Int × Int × Int × List Int × (List (Int × Int)) × List NodeT × List StepT × List (Int × Int × Int) => ∃ i : Nat, i ≤ pairs.length ∧ q = ((i : Int), 0, 0, 0, 0, trI num s.2.2.2.1, trI num s.2.2.2.2.1, s.2.2.2.2.2.1, s.2.2.2.2.2.2, num, (pairs.take i).map (fun p => (trI num p.1, trI num p.2)), selN s.1 B num s.1.length, d.map (stepAt s.2.1 num), s.2.2.1)) (fun q => pairs.length - q.1.toNat) ?_ _ ⟨0, by omega, rfl⟩
   rintro _ ⟨i, hi, rfl⟩
   simp only [L23_3, wp, Sum.elim_inl, Sum.elim_inr, ne_eq, ge_iff_le, gt_iff_lt, reduceCtorEq, forall_const, Bool.true_eq_false, Bool.false_eq_true, implies_true]
   refine ⟨fun hlt => ret_gI (by omega) hlt fun p hpg hpm => ?_, fun hge => ?_⟩
   ·have hpp := hpg
    rw [gI_nat] at hpp
    have hw := wrap_succ i (by omega)
    obtain ⟨h1, h2⟩ := says_yes (pw_says hs p) (hok p hpm)
    obtain ⟨v1, k1, _⟩ := gI_ok (l := num) h1.1 (by rw [nl]; exact h1.2)
    obtain ⟨v2, k2, _⟩ := gI_ok (l := num) h2.1 (by rw [nl]; exact h2.2)
    simp only [ret_eq hpg, ret_eq k1, ret_eq k2, wp, Sum.elim_inl, Sum.elim_inr, ne_eq, ge_iff_le, gt_iff_lt, reduceCtorEq, forall_const, Bool.true_eq_false, Bool.false_eq_true, implies_true, hw]
    refine ⟨fun _ => ⟨⟨i + 1, by omega, by rw [take_at hpp, List.map_append, ← gI_tr k1, ← gI_tr k2]; rfl⟩, by omega⟩, fun h => absurd h (by simp; omega)⟩
   ·have : i = pairs.length := by omega
    subst this
    rw [List.take_length]
    refine ⟨fun ⟨p, hp, hf⟩ => absurd (hok p hp) (by rw [hf]; simp), fun _ => ⟨d, B, num, e11, MF, N, rfl⟩⟩
 simp only [L23_1, wp, Sum.elim_inl, Sum.elim_inr, ne_eq, ge_iff_le, gt_iff_lt, reduceCtorEq, forall_const, Bool.true_eq_false, Bool.false_eq_true, implies_true]
 refine ⟨fun hkf' => ?_, fun hkf' => fin (.inr hkf')⟩
 by_cases hkl : k < s.1.length
 ·rw [show decide ((k : Int) < (b.length : Int)) = true by simp; omega]
  simp only [J23_1, wp, Sum.elim_inl, Sum.elim_inr, ne_eq, ge_iff_le, gt_iff_lt, reduceCtorEq, forall_const, Bool.true_eq_false, Bool.false_eq_true, implies_true]
  refine ret_gI (by omega) (by omega) fun y hy _ => ?_
  simp only [ret_eq hy, wrap_succ k (by omega)]
  refine ⟨⟨k + 1, _, by omega, .inr (by omega), rfl, by rw [setI_len, hbl], fun j hj => ?_⟩, by omega⟩
  rw [set_iff _ _ _ hbl ⟨by omega, by omega⟩, hb j hj]
  omega
 ·rw [show decide ((k : Int) < (b.length : Int)) = false by simp; omega]
  exact fin (.inl (by omega))
theorem restrict_eq (hinv : s.2.2.1.length ≤ 1000) (hva : inR s.1.length s.2.2.2.1) (hst : inR s.1.length s.2.2.2.2.1) (first : Int) (pairs : List (Int × Int)) (hp : pairs.length ≤ 100) : ∃ r, F22 s first pairs = some r ∧ F23 s first pairs = some r ∧ SmallP (r.1.1, r.1.2.1, 0, 0) ∧ r.2.1.length ≤ 100 := by
 obtain ⟨r, e1, q1⟩ := F22_ok hs hinv hva hst first pairs hp
 obtain ⟨r', e2, q2⟩ := F23_ok hs hinv hva hst first pairs hp
 have := q1.uniq q2
 subst this
 refine ⟨r, e1, e2, ?_⟩
 have hsl := hs.sl
 have hN := hs.n.n
 by_cases hall : ∀ p ∈ pairs, (pw s p).2 = true
 ·obtain ⟨d, B, num, e11, M, N, rfl⟩ := q1.yes hall
  obtain ⟨d', e11', _, hd, hdl⟩ := deps_eq hs (rowsOf s pairs) (by have := rows_len hs pairs; omega)
  rw [e11] at e11'
  cases e11'
  refine ⟨⟨sel_small hs B num, step_small hs num d hd, by simp [restR]; exact hdl⟩, by simp [restR]; exact hp⟩
 ·have : ∃ p ∈ pairs, (pw s p).2 = false := by
   refine Classical.byContradiction fun hc => hall fun p hp => ?_
   cases hb : (pw s p).2 with
   | true => rfl
   | false => exact absurd ⟨p, hp, hb⟩ hc
  have := q1.no this
  rw [this]
  exact ⟨⟨⟨by simp, fun x hx => absurd hx (by simp)⟩, fun x hx => absurd hx (by simp), by simp⟩, by simp⟩
end

/-! the law -/
theorem F6_ok (l steps : List Int) (how at' a b first : Int) : F6 l steps how at' a b first = some true := by
 refine Ret.eq ?_
 simp only [F6, wp, Sum.elim_inl, Sum.elim_inr, ne_eq, ge_iff_le, gt_iff_lt, reduceCtorEq, forall_const, Bool.true_eq_false, Bool.false_eq_true, implies_true]
 refine Ret.mono (F13_ok l steps how at') fun s _ hr => ?_
 have n0 := hr.n0
 have n1 := hr.n1
 have sl := hr.sl
 have hs := hr.small
 have h3 : F3 = some true := rfl
 have e15 : ∀ n, F15 n s.1.length = some (pickM n s.1.length) := fun n => F15_eq n _ (by omega) (by omega)
 have hw2 : IntKind.wrap .i64 ((s.1.length : Int) + 2) = (s.1.length : Int) + 2 := wrap_id (by omega) (by omega)
 have e15' := F15_eq first ((s.1.length : Int) + 2) (by omega) (by omega)
 simp only [e15, wp, Sum.elim_inl, Sum.elim_inr, ne_eq, ge_iff_le, gt_iff_lt, reduceCtorEq, forall_const, Bool.true_eq_false, Bool.false_eq_true, implies_true]
 generalize pickM a s.1.length = a'
 generalize pickM b s.1.length = b'
 refine ret_loop (fun q : Int × List (Int × Int) => ∃ i : Nat, q.1 = i ∧ i ≤ 3 ∧ q.2 = [(a, b), (a', b'), (s.2.2.2.1, a')]) (fun q => 3 - q.1.toNat) ?_ _ ⟨0, rfl, by omega, rfl⟩
 rintro ⟨i', ls⟩ ⟨i, e, hi, e2⟩
 dsimp only at e e2
 subst e e2
 have hlen : (([(a, b), (a', b'), (s.2.2.2.1, a')] : List (Int × Int)).length : Int) = 3 := rfl
 have hlen2 : ([(a, b), (a', b'), (s.2.2.2.1, a')] : List (Int × Int)).length = 3 := rfl
 generalize ([(a, b), (a', b'), (s.2.2.2.1, a')] : List (Int × Int)) = ps at *
 simp only [L6_1, wp, Sum.elim_inl, Sum.elim_inr, ne_eq, ge_iff_le, gt_iff_lt, reduceCtorEq, forall_const, Bool.true_eq_false, Bool.false_eq_true, implies_true, h3]
 refine fun hlt => ?_
 have hi3 : i < 3 := by simp only [List.length_cons, List.length_nil] at hlt; omega
 have hw := wrap_succ i (by omega)
 refine ret_gI (by omega) (by simp only [List.length_cons, List.length_nil] at hlt; omega) fun x hx _ => ?_
 obtain ⟨r, e9, e17, hP⟩ := prove_eq hs x.1 x.2
 obtain ⟨c, e12, e19⟩ := connects_eq hP
 obtain ⟨m, e20, e21, hM⟩ := minimize_eq hP
 obtain ⟨k, e22, e23, hK, hkl⟩ := restrict_eq hs (by rw [hr.inv]; simp) hr.va hr.st (pickM first ((s.1.length : Int) + 2)) ([(x.1, x.2), (s.2.2.2.2.1, s.2.2.2.2.1)] : List (Int × Int)) (by simp)
 have s24 := F24_self k.1.1 hK.n
 have s25 := F25_self k.1.2.1 (by have := hK.sl; dsimp only at this; omega) hK.v
 simp only [ret_eq hx, e9, e17, F18_self hP, e12, e19, e20, e21, F18_self hM, J6_1, hw2, e15', e22, e23, s24, s25, bne_self_eq_false, J6_2, wp, Sum.elim_inl, Sum.elim_inr, ne_eq, ge_iff_le, gt_iff_lt, reduceCtorEq, forall_const, Bool.true_eq_false, Bool.false_eq_true, implies_true]
 refine ret_loop (fun q : Int × List (Int × Int) => ∃ j : Nat, q.1 = j ∧ j ≤ k.2.1.length ∧ q.2 = ps) (fun q => k.2.1.length - q.1.toNat) ?_ _ ⟨0, rfl, by omega, rfl⟩
 rintro ⟨j', ls⟩ ⟨j, e, hj, e2⟩
 dsimp only at e e2
 subst e e2
 have hwj := wrap_succ j (by omega)
 simp only [L6_2, wp, Sum.elim_inl, Sum.elim_inr, ne_eq, ge_iff_le, gt_iff_lt, reduceCtorEq, forall_const, Bool.true_eq_false, Bool.false_eq_true, implies_true, hw, hwj]
 refine ⟨fun hlt2 => ret_gI (by omega) hlt2 fun y hy _ => ?_, fun _ => ⟨⟨i + 1, rfl, by omega⟩, by show 3 - (((i + 1 : Nat) : Int)).toNat < 3 - ((i : Int)).toNat; omega⟩⟩
 simp only [ret_eq hy, beq_self_eq_true, Bool.and_self, wp, Sum.elim_inl, Sum.elim_inr, ne_eq, ge_iff_le, gt_iff_lt, reduceCtorEq, forall_const, Bool.true_eq_false, Bool.false_eq_true, implies_true]
 exact ⟨⟨j + 1, rfl, by omega⟩, by omega⟩
end Go.Dat
