/-
  shortest and Path as plain functions.
-/
import Derived.Test.YtffkjnaocflmdaaP1
namespace Go.Dat
open Go.Eng
set_option linter.unusedSimpArgs false
set_option linter.unusedVariables false

abbrev nI (Q : List Nat) : List Int := Q.map fun (n : Nat) => (n : Int)
theorem nI_at {Q : List Nat} {k c : Nat} (h : Q[k]? = some c) : gI (nI Q) (k : Int) = some (c : Int) := by
  rw [gI_nat]; simp [h]
theorem nI_len (Q : List Nat) : (nI Q).length = Q.length := by simp
theorem gI_D {D : List Int} {i : Nat} {x : Int} (h : D[i]? = some x) : gI D (i : Int) = some x := by rw [gI_nat]; exact h
theorem wrap_succ (k : Nat) (h : k ≤ 9223372036854775806) : IntKind.wrap .i64 ((k : Int) + 1) = ((k + 1 : Nat) : Int) := by rw [wrap_id (by omega) (by omega)]; omega
theorem setI_nat {α : Type} (l : List α) (i : Nat) (x : α) : setI l (i : Int) x = l.set i x := rfl

section
variable {adj : Adj} {a b : Nat}
/-- what shortest returns -/
def SQ (adj : Adj) (a b : Nat) (r : List Int × Bool) : Prop := ∃ D, Dist adj b D ∧ r = shortM adj D (a : Int)

/-! the path -/
structure I5 (adj : Adj) (D : List Int) (c d : Nat) (out0 : List Int) (q : Int × Int × List Int × List Int) : Prop where
  e1 : q.1 = (c : Int)
  e2 : ∃ m : Nat, q.2.1 = (m : Int) ∧ m ≤ (adj[c]?.getD []).length ∧ ∀ j (e : Int × Int), j < m → (adj[c]?.getD [])[j]? = some e → atD D e.1 ≠ (d : Int)
  e3 : q.2.2 = (D, out0)
structure I4 (adj : Adj) (D : List Int) (a da : Nat) (q : Int × List Int × List Int) : Prop where
  ex : ∃ c d : Nat, q.1 = (c : Int) ∧ D[c]? = some (d : Int) ∧ q.2.2 ++ pathM adj D d (c : Int) = pathM adj D da (a : Int) ∧ q.2.2.length + d = da
  e2 : q.2.1 = D
theorem loop5 (u : Und adj) {D : List Int} (hD : Dist adj b D) (hn : adj.length ≤ 100000) (hrl : RowLe adj 1000000) {c d : Nat} (hc : D[c]? = some ((d + 1 : Nat) : Int)) (out : List Int) (hout : out.length ≤ 100000) (row : List (Int × Int)) (hrow : adj[c]?.getD [] = row)
    {Q : (Int × List Int × List Int) ⊕ (List Int × Bool) → Prop} (hQ : ∀ (j : Nat) (t : Int), row.find? (fun e => atD D e.1 == (d : Int)) = some ((j : Int), t) → D[j]? = some (d : Int) → Q (.inl ((j : Int), D, out ++ [t]))) :
    Ret (loopL (L27_5 row) ((c : Int), 0, D, out)) Q := by
  have hcl : c < adj.length := by rw [← hD.len]; exact (List.getElem?_eq_some_iff.1 hc).1
  have hrl2 : row.length ≤ 1000000 := by rw [← hrow]; simp [hcl]; exact hrl _ (List.getElem_mem hcl)
  refine ret_loop (I5 adj D c d out) (fun q => row.length - q.2.1.toNat) ?_ _ ⟨rfl, ⟨0, rfl, by omega, fun j e hj => by omega⟩, rfl⟩
  rintro ⟨a53, x54, dist, out'⟩ ⟨e1, ⟨m, e2, hm, no⟩, e3⟩
  dsimp only at e1 e2 e3
  cases e3
  subst e1 e2
  rw [hrow] at hm no
  have hdb := hD.lo c _ hc
  simp only [L27_5, ret_some, ret_none, ret_bind, ret_map, ret_bif, Sum.elim_inl, Sum.elim_inr, decide_eq_true_eq, decide_eq_false_iff_not, stepQ_inl, stepQ_inr, Bool.not_eq_true', Bool.not_eq_false', beq_iff_eq, bne_iff_ne, ne_eq, beq_eq_false_iff_ne, bne_eq_false_iff_eq, ge_iff_le, gt_iff_lt, Int.not_le, Int.not_lt, reduceCtorEq, false_implies, true_implies, forall_const, and_true, true_and, Bool.true_eq_false, Bool.false_eq_true, implies_true, not_true_eq_false, not_false_eq_true, decide_true, decide_false, Bool.not_true, Bool.not_false]
  refine ⟨fun hlt => ret_gI (by omega) hlt fun y hy hmem => ?_, fun hge => ?_⟩
  · rw [gI_nat] at hy
    have hmem' : y ∈ adj[c]?.getD [] := by rw [hrow]; exact hmem
    have hrg := u.rg c _ hmem'
    obtain ⟨i, hi⟩ : ∃ i : Nat, y.1 = (i : Int) := ⟨y.1.toNat, by omega⟩
    have hil : i < adj.length := by omega
    have hiD : i < D.length := by rw [hD.len]; exact hil
    have hDi : D[i]? = some D[i] := List.getElem?_eq_getElem hiD
    have hwd : IntKind.wrap .i64 (((d + 1 : Nat) : Int) - 1) = (d : Int) := by rw [wrap_id (by omega) (by omega)]; omega
    simp only [hi, ret_eq (gI_D hDi), ret_eq (gI_D hc), hwd, ret_some, ret_none, ret_bind, ret_map, ret_bif, Sum.elim_inl, Sum.elim_inr, decide_eq_true_eq, decide_eq_false_iff_not, stepQ_inl, stepQ_inr, Bool.not_eq_true', Bool.not_eq_false', beq_iff_eq, bne_iff_ne, ne_eq, beq_eq_false_iff_ne, bne_eq_false_iff_eq, ge_iff_le, gt_iff_lt, Int.not_le, Int.not_lt, reduceCtorEq, false_implies, true_implies, forall_const, and_true, true_and, Bool.true_eq_false, Bool.false_eq_true, implies_true, not_true_eq_false, not_false_eq_true, decide_true, decide_false, Bool.not_true, Bool.not_false]
    refine ⟨fun heq => ?_, fun hne => ?_⟩
    · refine ⟨fun _ => hQ i y.2 ?_ (by rw [hDi, heq]), fun h => absurd h (by simp only [List.length_cons, List.length_nil]; omega)⟩
      have hml : m < row.length := by omega
      have hym : row[m] = y := by rw [List.getElem?_eq_getElem hml] at hy; exact Option.some.inj hy
      rw [find_first row m (fun e => atD D e.1 == (d : Int)) hml ?_ ?_]
      · rw [hym, ← hi]
      · rw [hym, hi, atD_of hDi, heq]; simp
      · intro j hj
        have := no j row[j] hj (List.getElem?_eq_getElem (by omega))
        simpa using this
    · have hw := wrap_succ m (by omega)
      refine ⟨⟨rfl, ⟨m + 1, hw, by rw [hrow]; omega, ?_⟩, rfl⟩, by rw [hw]; omega⟩
      intro j e hj he
      rw [hrow] at he
      by_cases ej : j < m
      · exact no j e ej he
      · have : j = m := by omega
        subst this
        rw [hy] at he; cases he
        rw [hi, atD_of hDi]; exact hne
  · exfalso
    obtain ⟨j, t, h1, h2⟩ := hD.step u hc
    rw [hrow] at h1
    obtain ⟨p, hp⟩ := List.getElem?_of_mem h1
    have hpl := (List.getElem?_eq_some_iff.1 hp).1
    exact no p _ (by omega) hp (atD_of h2)
theorem loop4 (u : Und adj) {D : List Int} (hD : Dist adj b D) (hn : adj.length ≤ 100000) (hrl : RowLe adj 1000000) {da : Nat} (hda : D[a]? = some (da : Int)) :
    Ret (loopL (L27_4 adj (b : Int)) ((a : Int), D, [])) fun r => r = (pathM adj D da (a : Int), true) := by
  have hda' := hD.lo a _ hda
  refine ret_loop (I4 adj D a da) (fun q => (atD D q.1).toNat) ?_ _ ⟨⟨a, da, rfl, hda, rfl, by simp⟩, rfl⟩
  rintro ⟨a45, dist, out⟩ ⟨⟨c, d, e1, hc, hp, hl⟩, e2⟩
  dsimp only at e1 e2 hp hl
  subst e1 e2
  have hcl : c < adj.length := by rw [← hD.len]; exact (List.getElem?_eq_some_iff.1 hc).1
  simp only [L27_4, ret_some, ret_none, ret_bind, ret_map, ret_bif, Sum.elim_inl, Sum.elim_inr, decide_eq_true_eq, decide_eq_false_iff_not, stepQ_inl, stepQ_inr, Bool.not_eq_true', Bool.not_eq_false', beq_iff_eq, bne_iff_ne, ne_eq, beq_eq_false_iff_ne, bne_eq_false_iff_eq, ge_iff_le, gt_iff_lt, Int.not_le, Int.not_lt, reduceCtorEq, false_implies, true_implies, forall_const, and_true, true_and, Bool.true_eq_false, Bool.false_eq_true, implies_true, not_true_eq_false, not_false_eq_true, decide_true, decide_false, Bool.not_true, Bool.not_false]
  refine ⟨fun hne => ?_, fun he => ?_⟩
  · have hrow : adj[c]?.getD [] = adj[c] := by simp [hcl]
    have hg : gI adj (c : Int) = some adj[c] := by rw [gI_nat]; exact List.getElem?_eq_getElem hcl
    simp only [ret_eq hg]
    obtain ⟨d, rfl⟩ : ∃ e, d = e + 1 := by
      cases d with
      | zero => exact absurd (hD.zero hc) (by omega)
      | succ e => exact ⟨e, rfl⟩
    refine loop5 u hD hn hrl hc out (by omega) adj[c] hrow fun j t hf hj => ⟨⟨⟨j, d, rfl, hj, ?_, by simp only [List.length_append, List.length_cons, List.length_nil]; omega⟩, rfl⟩, ?_⟩
    · rw [← hp]
      have e : atD dist (c : Int) - 1 = (d : Int) := by rw [atD_of hc]; omega
      have : pathM adj dist (d + 1) (c : Int) = t :: pathM adj dist d (j : Int) := by
        rw [pathM, e, Int.toNat_natCast, hrow, hf]
      rw [this, List.append_assoc]; rfl
    · dsimp only
      rw [atD_of hj, atD_of hc]; omega
  · have : c = b := by omega
    subst this
    have := hD.b0
    rw [hc] at this
    have hd0 : d = 0 := by have := Option.some.inj this; omega
    subst hd0
    simp only [pathM, List.append_nil] at hp
    rw [hp]

/-! the search -/
structure I3 (adj : Adj) (b k c : Nat) (row : List (Int × Int)) (q : Int × List Int × List Int) : Prop where
  ex : ∃ (m : Nat) (Q : List Nat), q.1 = (m : Int) ∧ m ≤ row.length ∧ q.2.2 = nI Q ∧ BF adj b q.2.1 Q k ∧ Q[k]? = some c ∧ ∀ (j i : Nat) (t : Int), j < m → row[j]? = some ((i : Int), t) → ∃ d : Nat, q.2.1[i]? = some (d : Int)
structure I2 (adj : Adj) (b : Nat) (q : Int × List Int × List Int) : Prop where
  ex : ∃ (k : Nat) (Q : List Nat), q.1 = (k : Int) ∧ q.2.2 = nI Q ∧ BF adj b q.2.1 Q k ∧ k ≤ Q.length
theorem loop3 (u : Und adj) (hn : adj.length ≤ 100000) (hrl : RowLe adj 1000000) (k c : Nat) (row : List (Int × Int)) (hrow : adj[c]?.getD [] = row) (D : List Int) (Q : List Nat) (B : BF adj b D Q k) (hc : Q[k]? = some c)
    {R : (Int × List Int × List Int) ⊕ (List Int × Bool) → Prop} (hR : ∀ D' Q', BF adj b D' Q' (k + 1) → k + 1 ≤ Q'.length → R (.inl (((k + 1 : Nat) : Int), D', nI Q'))) :
    Ret (loopL (L27_3 (k : Int) row) (0, D, nI Q)) R := by
  refine ret_loop (I3 adj b k c row) (fun q => row.length - q.1.toNat) ?_ _ ⟨0, Q, rfl, by omega, rfl, B, hc, fun j i t hj => by omega⟩
  rintro ⟨x24, D, queue⟩ ⟨m, Q, e1, hm, e2, B, hc, hdone⟩
  dsimp only at e1 e2 B hdone
  subst e1 e2
  have hcnt := B.cnt
  have hkl : k < Q.length := (List.getElem?_eq_some_iff.1 hc).1
  obtain ⟨d, hDc, hdk⟩ := B.q1 k c hc
  have hcl : c < D.length := (List.getElem?_eq_some_iff.1 hDc).1
  have hrl2 : row.length ≤ 1000000 := by rw [← hrow]; simp [show c < adj.length by rw [← B.dl]; exact hcl]; exact hrl _ (List.getElem_mem _)
  simp only [L27_3, ret_some, ret_none, ret_bind, ret_map, ret_bif, Sum.elim_inl, Sum.elim_inr, decide_eq_true_eq, decide_eq_false_iff_not, stepQ_inl, stepQ_inr, Bool.not_eq_true', Bool.not_eq_false', beq_iff_eq, bne_iff_ne, ne_eq, beq_eq_false_iff_ne, bne_eq_false_iff_eq, ge_iff_le, gt_iff_lt, Int.not_le, Int.not_lt, reduceCtorEq, false_implies, true_implies, forall_const, and_true, true_and, Bool.true_eq_false, Bool.false_eq_true, implies_true, not_true_eq_false, not_false_eq_true, decide_true, decide_false, Bool.not_true, Bool.not_false]
  refine ⟨fun hlt => ret_gI (by omega) hlt fun y hy hmem => ?_, fun hge => ?_⟩
  · rw [gI_nat] at hy
    have hmem' : y ∈ adj[c]?.getD [] := by rw [hrow]; exact hmem
    have hrg := u.rg c _ hmem'
    obtain ⟨i, hi⟩ : ∃ i : Nat, y.1 = (i : Int) := ⟨y.1.toNat, by omega⟩
    have hil : i < adj.length := by omega
    have hiD : i < D.length := by rw [B.dl]; exact hil
    have hDi : D[i]? = some D[i] := List.getElem?_eq_getElem hiD
    have hlk : Lk adj c i := ⟨y.2, by rw [← hi]; exact hmem'⟩
    have hwd := wrap_succ d (by omega)
    have hw := wrap_succ m (by omega)
    simp only [hi, ret_eq (gI_D hDi), ret_eq (nI_at hc), ret_eq (gI_D hDc), hwd, hw, J27_1, ret_some, ret_none, ret_bind, ret_map, ret_bif, Sum.elim_inl, Sum.elim_inr, decide_eq_true_eq, decide_eq_false_iff_not, stepQ_inl, stepQ_inr, Bool.not_eq_true', Bool.not_eq_false', beq_iff_eq, bne_iff_ne, ne_eq, beq_eq_false_iff_ne, bne_eq_false_iff_eq, ge_iff_le, gt_iff_lt, Int.not_le, Int.not_lt, reduceCtorEq, false_implies, true_implies, forall_const, and_true, true_and, Bool.true_eq_false, Bool.false_eq_true, implies_true, not_true_eq_false, not_false_eq_true, decide_true, decide_false, Bool.not_true, Bool.not_false]
    refine ⟨fun hneg => ⟨fun _ => ?_, fun h => absurd h (by simp only [List.length_cons, List.length_nil, nI_len]; omega)⟩, fun hpos => ?_⟩
    · obtain ⟨B2, hc2, _⟩ := B.push hc hDc hlk hDi hneg
      refine ⟨⟨m + 1, Q ++ [i], rfl, by omega, by simp, B2, hc2, ?_⟩, by omega⟩
      intro j i' t hj hr
      rw [setI_nat]
      by_cases ei : i' = i
      · subst ei; exact ⟨d + 1, List.getElem?_set_self hiD⟩
      · rw [List.getElem?_set_ne (Ne.symm ei)]
        by_cases e : j < m
        · exact hdone j i' t e hr
        · have e : j = m := by omega
          subst e
          rw [hy] at hr
          have : y.1 = (i' : Int) := by rw [Option.some.inj hr]
          omega
    · refine ⟨⟨m + 1, Q, rfl, by omega, rfl, B, hc, ?_⟩, by omega⟩
      intro j i' t hj hr
      by_cases e : j < m
      · exact hdone j i' t e hr
      · have e : j = m := by omega
        subst e
        rw [hy] at hr
        have : y.1 = (i' : Int) := by rw [Option.some.inj hr]
        have : i' = i := by omega
        subst this
        exact ⟨D[i'].toNat, by rw [hDi]; congr 1; omega⟩
  · have hw := wrap_succ k (by omega)
    rw [hw]
    refine hR D Q (B.next hc ?_) hkl
    rintro i ⟨t, ht⟩
    rw [hrow] at ht
    obtain ⟨j, hj⟩ := List.getElem?_of_mem ht
    exact hdone j i t (by have := (List.getElem?_eq_some_iff.1 hj).1; omega) hj
theorem loop2 (u : Und adj) (hn : adj.length ≤ 100000) (hrl : RowLe adj 1000000) (ha : a < adj.length) (D : List Int) (Q : List Nat) (B : BF adj b D Q 0) :
    Ret (loopL (L27_2 adj (a : Int) (b : Int)) (0, D, nI Q)) (SQ adj a b) := by
  refine ret_loop (I2 adj b) (fun q => adj.length - q.1.toNat) ?_ _ ⟨0, Q, rfl, rfl, B, by omega⟩
  rintro ⟨k', D, queue⟩ ⟨k, Q, e1, e2, B, hk⟩
  dsimp only at e1 e2 B
  subst e1 e2
  have hcnt := B.cnt
  simp only [L27_2, nI_len, ret_some, ret_none, ret_bind, ret_map, ret_bif, Sum.elim_inl, Sum.elim_inr, decide_eq_true_eq, decide_eq_false_iff_not, stepQ_inl, stepQ_inr, Bool.not_eq_true', Bool.not_eq_false', beq_iff_eq, bne_iff_ne, ne_eq, beq_eq_false_iff_ne, bne_eq_false_iff_eq, ge_iff_le, gt_iff_lt, Int.not_le, Int.not_lt, reduceCtorEq, false_implies, true_implies, forall_const, and_true, true_and, Bool.true_eq_false, Bool.false_eq_true, implies_true, not_true_eq_false, not_false_eq_true, decide_true, decide_false, Bool.not_true, Bool.not_false]
  refine ⟨fun hlt => ?_, fun hge => ?_⟩
  · have hkl : k < Q.length := by omega
    obtain ⟨c, hc⟩ : ∃ c, Q[k]? = some c := ⟨_, List.getElem?_eq_getElem hkl⟩
    obtain ⟨d, hDc, hdk⟩ := B.q1 k c hc
    have hcl : c < adj.length := by rw [← B.dl]; exact (List.getElem?_eq_some_iff.1 hDc).1
    have hg : gI adj (c : Int) = some adj[c] := by rw [gI_nat]; exact List.getElem?_eq_getElem hcl
    simp only [ret_eq (nI_at hc), ret_eq hg]
    refine loop3 u hn hrl k c adj[c] (by simp [hcl]) D Q B hc fun D' Q' B' hk' => ⟨⟨k + 1, Q', rfl, rfl, B', hk'⟩, ?_⟩
    show adj.length - (((k + 1 : Nat) : Int)).toNat < adj.length - ((k : Int)).toNat
    omega
  · have hD := B.dist (by omega)
    have haD : a < D.length := by rw [hD.len]; exact ha
    have hDa : D[a]? = some D[a] := List.getElem?_eq_getElem haD
    simp only [ret_eq (gI_D hDa)]
    have hlo := hD.lo a _ hDa
    refine ⟨fun hneg => ⟨D, hD, by rw [shortM, atD_of hDa, if_pos hneg]⟩, fun hpos => ?_⟩
    obtain ⟨da, hda⟩ : ∃ da : Nat, D[a] = (da : Int) := ⟨D[a].toNat, by omega⟩
    refine Ret.mono (loop4 u hD hn hrl (by rw [hDa, hda])) fun r _ hr => ⟨D, hD, ?_⟩
    rw [shortM, atD_of hDa, if_neg (by omega), hr, hda]; rfl
theorem F27_ok (u : Und adj) (hn : adj.length ≤ 100000) (hrl : RowLe adj 1000000) (ha : a < adj.length) (hb : b < adj.length) : Ret (F27 adj (a : Int) (b : Int)) (SQ adj a b) := by
  simp only [F27, ret_some, ret_none, ret_bind, ret_map, ret_bif, Sum.elim_inl, Sum.elim_inr, decide_eq_true_eq, decide_eq_false_iff_not, stepQ_inl, stepQ_inr, Bool.not_eq_true', Bool.not_eq_false', beq_iff_eq, bne_iff_ne, ne_eq, beq_eq_false_iff_ne, bne_eq_false_iff_eq, ge_iff_le, gt_iff_lt, Int.not_le, Int.not_lt, reduceCtorEq, false_implies, true_implies, forall_const, and_true, true_and, Bool.true_eq_false, Bool.false_eq_true, implies_true, not_true_eq_false, not_false_eq_true, decide_true, decide_false, Bool.not_true, Bool.not_false]
  refine ⟨fun _ => ?_, fun h => absurd h (by omega)⟩
  refine ret_loop (fun q : Int × List Int => ∃ k : Nat, q.1 = (k : Int) ∧ k ≤ adj.length ∧ q.2.length = adj.length ∧ ∀ i : Nat, i < k → q.2[i]? = some (-1)) (fun q => adj.length - q.1.toNat) ?_ _ ⟨0, rfl, by omega, by simp, fun i hi => by omega⟩
  rintro ⟨x6, D⟩ ⟨k, e1, hk, hl, hd⟩
  dsimp only at e1 hl hd
  subst e1
  simp only [L27_1, List.length_replicate, Int.toNat_natCast, ret_some, ret_none, ret_bind, ret_map, ret_bif, Sum.elim_inl, Sum.elim_inr, decide_eq_true_eq, decide_eq_false_iff_not, stepQ_inl, stepQ_inr, Bool.not_eq_true', Bool.not_eq_false', beq_iff_eq, bne_iff_ne, ne_eq, beq_eq_false_iff_ne, bne_eq_false_iff_eq, ge_iff_le, gt_iff_lt, Int.not_le, Int.not_lt, reduceCtorEq, false_implies, true_implies, forall_const, and_true, true_and, Bool.true_eq_false, Bool.false_eq_true, implies_true, not_true_eq_false, not_false_eq_true, decide_true, decide_false, Bool.not_true, Bool.not_false]
  refine ⟨fun hlt => ret_gI (by omega) (by omega) fun y hy hm => ?_, fun hge => ?_⟩
  · have hw := wrap_succ k (by omega)
    simp only [ret_eq hy, hw]
    refine ⟨⟨k + 1, rfl, by omega, by rw [setI_len, hl], ?_⟩, by omega⟩
    intro i hi
    rw [setI_nat]
    by_cases e : k = i
    · subst e; rw [List.getElem?_set_self (by omega)]
    · rw [List.getElem?_set_ne e]; exact hd i (by omega)
  · have hkn : k = adj.length := by omega
    have hDe : D = List.replicate adj.length (-1) := by
      apply List.ext_getElem?
      intro i
      by_cases hi : i < adj.length
      · rw [hd i (by omega)]; simp [hi]
      · rw [List.getElem?_eq_none (by omega), List.getElem?_eq_none (by simp; omega)]
    refine ret_gI (by omega) (by omega) fun y hy hm => ?_
    simp only [ret_eq hy]
    rw [hDe]
    exact loop2 u hn hrl ha _ [b] (BF.start adj b hb)
end

theorem F8_ok (s : SatT) (a b below : Int) (hs : s.2.1.length ≤ 400000) (hn : s.1.length ≤ 100000) : Ret (F8 s a b below) fun r => PathSays s a b below r.1 r.2 := by
  simp only [F8, F26_eq, ret_some, ret_none, ret_bind, ret_map, ret_bif, Sum.elim_inl, Sum.elim_inr, decide_eq_true_eq, decide_eq_false_iff_not, stepQ_inl, stepQ_inr, Bool.not_eq_true', Bool.not_eq_false', beq_iff_eq, bne_iff_ne, ne_eq, beq_eq_false_iff_ne, bne_eq_false_iff_eq, ge_iff_le, gt_iff_lt, Int.not_le, Int.not_lt, reduceCtorEq, false_implies, true_implies, forall_const, and_true, true_and, Bool.true_eq_false, Bool.false_eq_true, implies_true, not_true_eq_false, not_false_eq_true, decide_true, decide_false, Bool.not_true, Bool.not_false]
  by_cases ha : inR s.1.length a
  · by_cases hb : inR s.1.length b
    · simp only [ha, hb, ret_some, ret_none, ret_bind, ret_map, ret_bif, Sum.elim_inl, Sum.elim_inr, decide_eq_true_eq, decide_eq_false_iff_not, stepQ_inl, stepQ_inr, Bool.not_eq_true', Bool.not_eq_false', beq_iff_eq, bne_iff_ne, ne_eq, beq_eq_false_iff_ne, bne_eq_false_iff_eq, ge_iff_le, gt_iff_lt, Int.not_le, Int.not_lt, reduceCtorEq, false_implies, true_implies, forall_const, and_true, true_and, Bool.true_eq_false, Bool.false_eq_true, implies_true, not_true_eq_false, not_false_eq_true, decide_true, decide_false, Bool.not_true, Bool.not_false, J8_1, F28_eq s below hs (by omega)]
      obtain ⟨i, rfl⟩ : ∃ i : Nat, a = (i : Int) := ⟨a.toNat, by have := ha.1; omega⟩
      obtain ⟨j, rfl⟩ : ∃ j : Nat, b = (j : Int) := ⟨b.toNat, by have := hb.1; omega⟩
      have hgl : (grM s below).length = s.1.length := edgesM_len _ _ _
      have hrl : RowLe (grM s below) 1000000 := fun r hr => by have := edgesM_le _ _ _ r hr; omega
      refine Ret.mono (F27_ok (edges_und _ _ _) (by omega) hrl (by have := ha.2; omega) (by have := hb.2; omega)) fun r _ hr => ?_
      obtain ⟨D, hD, e⟩ := hr
      exact .inr ⟨ha, hb, D, hD, e⟩
    · simp only [ha, hb, ret_some, ret_none, ret_bind, ret_map, ret_bif, Sum.elim_inl, Sum.elim_inr, decide_eq_true_eq, decide_eq_false_iff_not, stepQ_inl, stepQ_inr, Bool.not_eq_true', Bool.not_eq_false', beq_iff_eq, bne_iff_ne, ne_eq, beq_eq_false_iff_ne, bne_eq_false_iff_eq, ge_iff_le, gt_iff_lt, Int.not_le, Int.not_lt, reduceCtorEq, false_implies, true_implies, forall_const, and_true, true_and, Bool.true_eq_false, Bool.false_eq_true, implies_true, not_true_eq_false, not_false_eq_true, decide_true, decide_false, Bool.not_true, Bool.not_false, J8_1]
      exact .inl ⟨fun h => hb h.2, rfl, rfl⟩
  · simp only [ha, ret_some, ret_none, ret_bind, ret_map, ret_bif, Sum.elim_inl, Sum.elim_inr, decide_eq_true_eq, decide_eq_false_iff_not, stepQ_inl, stepQ_inr, Bool.not_eq_true', Bool.not_eq_false', beq_iff_eq, bne_iff_ne, ne_eq, beq_eq_false_iff_ne, bne_eq_false_iff_eq, ge_iff_le, gt_iff_lt, Int.not_le, Int.not_lt, reduceCtorEq, false_implies, true_implies, forall_const, and_true, true_and, Bool.true_eq_false, Bool.false_eq_true, implies_true, not_true_eq_false, not_false_eq_true, decide_true, decide_false, Bool.not_true, Bool.not_false, J8_1]
    exact .inl ⟨fun h => ha h.1, rfl, rfl⟩
end Go.Dat
