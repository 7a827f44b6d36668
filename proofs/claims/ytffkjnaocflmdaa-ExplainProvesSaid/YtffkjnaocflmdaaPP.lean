/-
 Pick, inRange, edges, shortest, Path as plain functions.
-/
import Derived.Test.YtffkjnaocflmdaaFd
import Derived.Test.YtffkjnaocflmdaaBf
namespace Go.Dat
open Go.Eng
set_option linter.unusedSimpArgs false
set_option linter.unusedVariables false

/-! Pick -/
def pickM (n m : Int) : Int := if n.tmod m < 0 then n.tmod m + m else n.tmod m
theorem tmod_bd (n m : Int) (hm : 0 < m) : -m < n.tmod m ∧ n.tmod m < m := by
 constructor
 ·have := Int.tmod_lt_of_pos (-n) hm; rw [Int.neg_tmod] at this; omega
 ·exact Int.tmod_lt_of_pos n hm
theorem pickM_bd (n m : Int) (hm : 0 < m) : 0 ≤ pickM n m ∧ pickM n m < m := by
 have := tmod_bd n m hm
 unfold pickM; split <;> omega
theorem F15_eq (n m : Int) (hm : 0 < m) (h2 : m ≤ 9223372036854775807) : F15 n m = some (pickM n m) := by
 have hb := tmod_bd n m hm
 refine Ret.eq ?_
 simp only [F15, J15_1, wp, Sum.elim_inl, Sum.elim_inr, ne_eq, ge_iff_le, gt_iff_lt, reduceCtorEq, forall_const, Bool.true_eq_false, Bool.false_eq_true, implies_true]
 refine ⟨by omega, fun _ => ⟨fun h => ?_, fun h => ?_⟩⟩
 ·rw [wrap_id (by omega) (by omega), pickM, if_pos h]
 ·rw [pickM, if_neg (by omega)]
theorem F15_ok {n m : Int} {Q : Int → Prop} (hm : 0 < m) (h2 : m ≤ 9223372036854775807) (h : ∀ r, 0 ≤ r → r < m → Q r) : Ret (F15 n m) Q := by
 rw [F15_eq n m hm h2, ret_some]
 exact h _ (pickM_bd n m hm).1 (pickM_bd n m hm).2

/-! inRange -/
theorem F26_eq (l : List NodeT) (i : Int) : F26 l i = some (decide (inR l.length i)) := by
 refine Ret.eq ?_
 simp only [F26, J26_1, wp, Sum.elim_inl, Sum.elim_inr, ne_eq, ge_iff_le, gt_iff_lt, reduceCtorEq, forall_const, Bool.true_eq_false, Bool.false_eq_true, implies_true, inR]
 refine ⟨fun h => by simp [h], fun h => ?_⟩
 have : ¬ (0 ≤ i ∧ i < l.length) := by omega
 simp [this]

/-! edges -/
theorem gI_getD {adj : Adj} {i : Int} {row : List (Int × Int)} (h : gI adj i = some row) : adj[i.toNat]?.getD [] = row := by
 rw [(gI_some h).2.2]; rfl
theorem setI_addE {adj : Adj} {i : Int} {row : List (Int × Int)} (h : gI adj i = some row) (e : Int × Int) : setI adj i (row ++ [e]) = addE adj i e := by
 unfold addE setI; rw [gI_getD h]
theorem edgesM_at {n : Nat} {l : List StepT} {k : Nat} {x : StepT} (h : l[k]? = some x) : edgesM n l (k + 1) = stepE n (edgesM n l k) k x := by
 conv => lhs; unfold edgesM
 rw [h]
theorem F28_eq (s : SatT) (below : Int) (hs : s.2.1.length ≤ 400000) (hn : s.1.length ≤ 1000000) : F28 s below = some (grM s below) := by
 refine Ret.eq ?_
 simp only [F28, J28_1, wp, Sum.elim_inl, Sum.elim_inr, ne_eq, ge_iff_le, gt_iff_lt, reduceCtorEq, forall_const, Bool.true_eq_false, Bool.false_eq_true, implies_true]
 refine ⟨fun _ => ?_, fun h => absurd h (by omega)⟩
 refine Ret.mono (ret_loop (I := fun q : Int × Adj => ∃ k : Nat, q.1 = k ∧ k ≤ s.2.1.length ∧ k ≤ below.toNat ∧ q.2 = edgesM s.1.length s.2.1 k) (m := fun q => s.2.1.length - q.1.toNat) (Q := fun r => r = .inl (grM s below)) ?_ _ ⟨0, rfl, by omega, by omega, rfl⟩) ?_
 ·rintro ⟨x6, out⟩ ⟨k, hk, h1, h2, h3⟩
  dsimp only at hk h3
  subst hk h3
  simp only [L28_1, J28_2, wp, Sum.elim_inl, Sum.elim_inr, ne_eq, ge_iff_le, gt_iff_lt, reduceCtorEq, forall_const, Bool.true_eq_false, Bool.false_eq_true, implies_true]
  refine ⟨fun hlt => ?_, fun hge => ?_⟩
  ·refine ret_gI (by omega) hlt fun y hy hm => ?_
   rw [gI_nat] at hy
   refine ⟨fun hb => ?_, fun hb => ?_⟩
   ·rw [grM]
    have : min s.2.1.length below.toNat = k := by omega
    rw [this]
   ·have hw : IntKind.wrap .i64 ((k : Int) + 1) = ((k + 1 : Nat) : Int) := by rw [wrap_id (by omega) (by omega)]; omega
    have at' := edgesM_at (n := s.1.length) hy
    rw [F26_eq]
    simp only [wp, Sum.elim_inl, Sum.elim_inr, ne_eq, ge_iff_le, gt_iff_lt, reduceCtorEq, forall_const, Bool.true_eq_false, Bool.false_eq_true, implies_true]
    by_cases hl : inR s.1.length y.1
    ·by_cases hr : inR s.1.length y.2.1
     ·rw [F26_eq]
      simp only [wp, Sum.elim_inl, Sum.elim_inr, ne_eq, ge_iff_le, gt_iff_lt, reduceCtorEq, forall_const, Bool.true_eq_false, Bool.false_eq_true, implies_true, hl, hr, decide_true, Bool.not_true, J28_3, J28_2]
      have hle := edgesM_le s.1.length s.2.1 k
      have hlen := edgesM_len s.1.length s.2.1 k
      refine ret_gI hl.1 (by rw [hlen]; exact hl.2) fun row1 hr1 hm1 => ?_
      have hl1 := hle _ hm1
      have e1 := setI_addE hr1 (y.2.1, (k : Int))
      simp only [ret_eq hr1, wp, Sum.elim_inl, Sum.elim_inr, ne_eq, ge_iff_le, gt_iff_lt, reduceCtorEq, forall_const, Bool.true_eq_false, Bool.false_eq_true, implies_true]
      have len1 : (addE (edgesM s.1.length s.2.1 k) y.1 (y.2.1, (k : Int))).length = s.1.length := by rw [addE_len, hlen]
      have le1 := addE_le hle y.1 (y.2.1, (k : Int))
      refine ⟨fun _ => ?_, fun h => absurd h (by simp only [List.length_cons, List.length_nil]; omega)⟩
      rw [e1]
      refine ret_gI hr.1 (by rw [len1]; exact hr.2) fun row2 hr2 hm2 => ?_
      have hl2 := le1 _ hm2
      have e2 := setI_addE hr2 (y.1, (k : Int))
      simp only [ret_eq hr2, wp, Sum.elim_inl, Sum.elim_inr, ne_eq, ge_iff_le, gt_iff_lt, reduceCtorEq, forall_const, Bool.true_eq_false, Bool.false_eq_true, implies_true, J28_2]
      refine ⟨fun _ => ?_, fun h => absurd h (by simp only [List.length_cons, List.length_nil]; omega)⟩
      rw [e2]
      refine ⟨⟨k + 1, hw, by omega, by omega, ?_⟩, by rw [hw]; omega⟩
      rw [at', stepE, if_pos ⟨hl, hr⟩]
     ·rw [F26_eq]
      simp only [wp, Sum.elim_inl, Sum.elim_inr, ne_eq, ge_iff_le, gt_iff_lt, reduceCtorEq, forall_const, Bool.true_eq_false, Bool.false_eq_true, implies_true, hl, hr, decide_true, decide_false, Bool.not_true, Bool.not_false, J28_3, J28_2]
      refine ⟨⟨k + 1, hw, by omega, by omega, ?_⟩, by rw [hw]; omega⟩
      rw [at', stepE, if_neg (fun h => hr h.2)]
    ·simp only [wp, Sum.elim_inl, Sum.elim_inr, ne_eq, ge_iff_le, gt_iff_lt, reduceCtorEq, forall_const, Bool.true_eq_false, Bool.false_eq_true, implies_true, hl, decide_false, Bool.not_false, J28_3, J28_2]
     refine ⟨⟨k + 1, hw, by omega, by omega, ?_⟩, by rw [hw]; omega⟩
     rw [at', stepE, if_neg (fun h => hl h.1)]
  ·rw [grM]
   have : min s.2.1.length below.toNat = k := by omega
   rw [this]
 ·rintro r _ rfl
  simp only [J28_1, wp, Sum.elim_inl, Sum.elim_inr, ne_eq, ge_iff_le, gt_iff_lt, reduceCtorEq, forall_const, Bool.true_eq_false, Bool.false_eq_true, implies_true]
end Go.Dat
/-
 shortest and Path as plain functions.
-/
namespace Go.Dat
open Go.Eng
set_option linter.unusedSimpArgs false
set_option linter.unusedVariables false

abbrev nI (Q : List Nat) : List Int := Q.map fun (n : Nat) => (n : Int)
theorem nI_at {Q : List Nat} {k c : Nat} (h : Q[k]? = some c) : gI (nI Q) (k : Int) = some (c : Int) := by
 rw [gI_nat]; simp [h]
theorem nI_len (Q : List Nat) : (nI Q).length = Q.length := by simp
theorem gI_D {D : List Int} {i : Nat} {x : Int} (h : D[i]? = some x) : gI D (i : Int) = some x := by rw [gI_nat]; exact h
theorem wrap_succ (k : Nat) (h : k ≤ 9223372036854775806) : IntKind.wrap .i64 ((k : Int) + 1) = ((k + 1 : Nat) : Int) := by rw [wrap_id (by omega) (by omega)]; omega
theorem setI_nat {α : Type} (l : List α) (i : Nat) (x : α) : setI l (i : Int) x = l.set i x := rfl

section
variable {adj : Adj} {a b : Nat}
/-- what shortest returns -/
def SQ (adj : Adj) (a b : Nat) (r : List Int × Bool) : Prop := ∃ D, Dist adj b D ∧ r = shortM adj D (a : Int)

/-! the path -/
structure I5 (adj : Adj) (D : List Int) (c d : Nat) (out0 : List Int) (q : Int × Int × List Int × List Int) : Prop where
 e1 : q.1 = (c : Int)
 e2 : ∃ m : Nat, q.2.1 = (m : Int) ∧ m ≤ (adj[c]?.getD []).length ∧ ∀ j (e : Int × Int), j < m → (adj[c]?.getD [])[j]? = some e → atD D e.1 ≠ (d : Int)
 e3 : q.2.2 = (D, out0)
structure I4 (adj : Adj) (D : List Int) (a da : Nat) (q : Int × List Int × List Int) : Prop where
 ex : ∃ c d : Nat, q.1 = (c : Int) ∧ D[c]? = some (d : Int) ∧ q.2.2 ++ pathM adj D d (c : Int) = pathM adj D da (a : Int) ∧ q.2.2.length + d = da
 e2 : q.2.1 = D
theorem loop5 (u : Und adj) {D : List Int} (hD : Dist adj b D) (hn : adj.length ≤ 100000) (hrl : RowLe adj 1000000) {c d : Nat} (hc : D[c]? = some ((d + 1 : Nat) : Int)) (out : List Int) (hout : out.length ≤ 100000) (row : List (Int × Int)) (hrow : adj[c]?.getD [] = row)
  {Q : (Int × List Int × List Int) ⊕ (List Int × Bool) → Prop} (hQ : ∀ (j : Nat) (t : Int), row.find? (fun e => atD D e.1 == (d : Int)) = some ((j : Int), t) → D[j]? = some (d : Int) → Q (.inl ((j : Int), D, out ++ [t]))) :
  Ret (loopL (L27_5 row) ((c : Int), 0, D, out)) Q := by
 have hcl : c < adj.length := by rw [← hD.len]; exact (List.getElem?_eq_some_iff.1 hc).1
 have hrl2 : row.length ≤ 1000000 := by rw [← hrow]; simp [hcl]; exact hrl _ (List.getElem_mem hcl)
 refine ret_loop (I5 adj D c d out) (fun q => row.length - q.2.1.toNat) ?_ _ ⟨rfl, ⟨0, rfl, by omega, fun j e hj => by omega⟩, rfl⟩
 rintro ⟨a53, x54, dist, out'⟩ ⟨e1, ⟨m, e2, hm, no⟩, e3⟩
 dsimp only at e1 e2 e3
 cases e3
 subst e1 e2
 rw [hrow] at hm no
 have hdb := hD.lo c _ hc
 simp only [L27_5, wp, Sum.elim_inl, Sum.elim_inr, ne_eq, ge_iff_le, gt_iff_lt, reduceCtorEq, forall_const, Bool.true_eq_false, Bool.false_eq_true, implies_true]
 refine ⟨fun hlt => ret_gI (by omega) hlt fun y hy hmem => ?_, fun hge => ?_⟩
 ·rw [gI_nat] at hy
  have hmem' : y ∈ adj[c]?.getD [] := by rw [hrow]; exact hmem
  have hrg := u.rg c _ hmem'
  obtain ⟨i, hi⟩ : ∃ i : Nat, y.1 = (i : Int) := ⟨y.1.toNat, by omega⟩
  have hil : i < adj.length := by omega
  have hiD : i < D.length := by rw [hD.len]; exact hil
  have hDi : D[i]? = some D[i] := List.getElem?_eq_getElem hiD
  have hwd : IntKind.wrap .i64 (((d + 1 : Nat) : Int) - 1) = (d : Int) := by rw [wrap_id (by omega) (by omega)]; omega
  simp only [hi, ret_eq (gI_D hDi), ret_eq (gI_D hc), hwd, wp, Sum.elim_inl, Sum.elim_inr, ne_eq, ge_iff_le, gt_iff_lt, reduceCtorEq, forall_const, Bool.true_eq_false, Bool.false_eq_true, implies_true]
  refine ⟨fun heq => ?_, fun hne => ?_⟩
  ·refine ⟨fun _ => hQ i y.2 ?_ (by rw [hDi, heq]), fun h => absurd h (by simp only [List.length_cons, List.length_nil]; omega)⟩
   have hml : m < row.length := by omega
   have hym : row[m] = y := by rw [List.getElem?_eq_getElem hml] at hy; exact Option.some.inj hy
   rw [find_first row m (fun e => atD D e.1 == (d : Int)) hml ?_ ?_]
   ·rw [hym, ← hi]
   ·rw [hym, hi, atD_of hDi, heq]; simp
   ·intro j hj
    have := no j row[j] hj (List.getElem?_eq_getElem (by omega))
    simpa using this
  ·have hw := wrap_succ m (by omega)
   refine ⟨⟨rfl, ⟨m + 1, hw, by rw [hrow]; omega, ?_⟩, rfl⟩, by rw [hw]; omega⟩
   intro j e hj he
   rw [hrow] at he
   by_cases ej : j < m
   ·exact no j e ej he
   ·have : j = m := by omega
    subst this
    rw [hy] at he; cases he
    rw [hi, atD_of hDi]; exact hne
 ·exfalso
  obtain ⟨j, t, h1, h2⟩ := hD.step u hc
  rw [hrow] at h1
  obtain ⟨p, hp⟩ := List.getElem?_of_mem h1
  have hpl := (List.getElem?_eq_some_iff.1 hp).1
  exact no p _ (by omega) hp (atD_of h2)
theorem loop4 (u : Und adj) {D : List Int} (hD : Dist adj b D) (hn : adj.length ≤ 100000) (hrl : RowLe adj 1000000) {da : Nat} (hda : D[a]? = some (da : Int)) :
  Ret (loopL (L27_4 adj (b : Int)) ((a : Int), D, [])) fun r => r = (pathM adj D da (a : Int), true) := by
 have hda' := hD.lo a _ hda
 refine ret_loop (I4 adj D a da) (fun q => (atD D q.1).toNat) ?_ _ ⟨⟨a, da, rfl, hda, rfl, by simp⟩, rfl⟩
 rintro ⟨a45, dist, out⟩ ⟨⟨c, d, e1, hc, hp, hl⟩, e2⟩
 dsimp only at e1 e2 hp hl
 subst e1 e2
 have hcl : c < adj.length := by rw [← hD.len]; exact (List.getElem?_eq_some_iff.1 hc).1
 simp only [L27_4, wp, Sum.elim_inl, Sum.elim_inr, ne_eq, ge_iff_le, gt_iff_lt, reduceCtorEq, forall_const, Bool.true_eq_false, Bool.false_eq_true, implies_true]
 refine ⟨fun hne => ?_, fun he => ?_⟩
 ·have hrow : adj[c]?.getD [] = adj[c] := by simp [hcl]
  have hg : gI adj (c : Int) = some adj[c] := by rw [gI_nat]; exact List.getElem?_eq_getElem hcl
  simp only [ret_eq hg]
  obtain ⟨d, rfl⟩ : ∃ e, d = e + 1 := by
   cases d with
   | zero => exact absurd (hD.zero hc) (by omega)
   | succ e => exact ⟨e, rfl⟩
  refine loop5 u hD hn hrl hc out (by omega) adj[c] hrow fun j t hf hj => ⟨⟨⟨j, d, rfl, hj, ?_, by simp only [List.length_append, List.length_cons, List.length_nil]; omega⟩, rfl⟩, ?_⟩
  ·rw [← hp]
   have e : atD dist (c : Int) - 1 = (d : Int) := by rw [atD_of hc]; omega
   have : pathM adj dist (d + 1) (c : Int) = t :: pathM adj dist d (j : Int) := by
    rw [pathM, e, Int.toNat_natCast, hrow, hf]
   rw [this, List.append_assoc]; rfl
  ·dsimp only
   rw [atD_of hj, atD_of hc]; omega
 ·have : c = b := by omega
  subst this
  have := hD.b0
  rw [hc] at this
  have hd0 : d = 0 := by have := Option.some.inj this; omega
  subst hd0
  simp only [pathM, List.append_nil] at hp
  rw [hp]

/-! the search -/
structure I3 (adj : Adj) (b k c : Nat) (row : List (Int × Int)) (q : Int × List Int × List Int) : Prop where
 ex : ∃ (m : Nat) (Q : List Nat), q.1 = (m : Int) ∧ m ≤ row.length ∧ q.2.2 = nI Q ∧ BF adj b q.2.1 Q k ∧ Q[k]? = some c ∧ ∀ (j i : Nat) (t : Int), j < m → row[j]? = some ((i : Int), t) → ∃ d : Nat, q.2.1[i]? = some (d : Int)
structure I2 (adj : Adj) (b : Nat) (q : Int × List Int × List Int) : Prop where
 ex : ∃ (k : Nat) (Q : List Nat), q.1 = (k : Int) ∧ q.2.2 = nI Q ∧ BF adj b q.2.1 Q k ∧ k ≤ Q.length
theorem loop3 (u : Und adj) (hn : adj.length ≤ 100000) (hrl : RowLe adj 1000000) (k c : Nat) (row : List (Int × Int)) (hrow : adj[c]?.getD [] = row) (D : List Int) (Q : List Nat) (B : BF adj b D Q k) (hc : Q[k]? = some c)
  {R : (Int × List Int × List Int) ⊕ (List Int × Bool) → Prop} (hR : ∀ D' Q', BF adj b D' Q' (k + 1) → k + 1 ≤ Q'.length → R (.inl (((k + 1 : Nat) : Int), D', nI Q'))) :
  Ret (loopL (L27_3 (k : Int) row) (0, D, nI Q)) R := by
 refine ret_loop (I3 adj b k c row) (fun q => row.length - q.1.toNat) ?_ _ ⟨0, Q, rfl, by omega, rfl, B, hc, fun j i t hj => by omega⟩
 rintro ⟨x24, D, queue⟩ ⟨m, Q, e1, hm, e2, B, hc, hdone⟩
 dsimp only at e1 e2 B hdone
 subst e1 e2
 have hcnt := B.cnt
 have hkl : k < Q.length := (List.getElem?_eq_some_iff.1 hc).1
 obtain ⟨d, hDc, hdk⟩ := B.q1 k c hc
 have hcl : c < D.length := (List.getElem?_eq_some_iff.1 hDc).1
 have hrl2 : row.length ≤ 1000000 := by rw [← hrow]; simp [show c < adj.length by rw [← B.dl]; exact hcl]; exact hrl _ (List.getElem_mem _)
 simp only [L27_3, wp, Sum.elim_inl, Sum.elim_inr, ne_eq, ge_iff_le, gt_iff_lt, reduceCtorEq, forall_const, Bool.true_eq_false, Bool.false_eq_true, implies_true]
 refine ⟨fun hlt => ret_gI (by omega) hlt fun y hy hmem => ?_, fun hge => ?_⟩
 ·rw [gI_nat] at hy
  have hmem' : y ∈ adj[c]?.getD [] := by rw [hrow]; exact hmem
  have hrg := u.rg c _ hmem'
  obtain ⟨i, hi⟩ : ∃ i : Nat, y.1 = (i : Int) := ⟨y.1.toNat, by omega⟩
  have hil : i < adj.length := by omega
  have hiD : i < D.length := by rw [B.dl]; exact hil
  have hDi : D[i]? = some D[i] := List.getElem?_eq_getElem hiD
  have hlk : Lk adj c i := ⟨y.2, by rw [← hi]; exact hmem'⟩
  have hwd := wrap_succ d (by omega)
  have hw := wrap_succ m (by omega)
  simp only [hi, ret_eq (gI_D hDi), ret_eq (nI_at hc), ret_eq (gI_D hDc), hwd, hw, J27_1, wp, Sum.elim_inl, Sum.elim_inr, ne_eq, ge_iff_le, gt_iff_lt, reduceCtorEq, forall_const, Bool.true_eq_false, Bool.false_eq_true, implies_true]
  refine ⟨fun hneg => ⟨fun _ => ?_, fun h => absurd h (by simp only [List.length_cons, List.length_nil, nI_len]; omega)⟩, fun hpos => ?_⟩
  ·obtain ⟨B2, hc2, _⟩ := B.push hc hDc hlk hDi hneg
   refine ⟨⟨m + 1, Q ++ [i], rfl, by omega, by simp, B2, hc2, ?_⟩, by omega⟩
   intro j i' t hj hr
   rw [setI_nat]
   by_cases ei : i' = i
   ·subst ei; exact ⟨d + 1, List.getElem?_set_self hiD⟩
   ·rw [List.getElem?_set_ne (Ne.symm ei)]
    by_cases e : j < m
    ·exact hdone j i' t e hr
    ·have e : j = m := by omega
     subst e
     rw [hy] at hr
     have : y.1 = (i' : Int) := by rw [Option.some.inj hr]
     omega
  ·refine ⟨⟨m + 1, Q, rfl, by omega, rfl, B, hc, ?_⟩, by omega⟩
   intro j i' t hj hr
   by_cases e : j < m
   ·exact hdone j i' t e hr
   ·have e : j = m := by omega
    subst e
    rw [hy] at hr
    have : y.1 = (i' : Int) := by rw [Option.some.inj hr]
    have : i' = i := by omega
    subst this
    exact ⟨D[i'].toNat, by rw [hDi]; congr 1; omega⟩
 ·have hw := wrap_succ k (by omega)
  rw [hw]
  refine hR D Q (B.next hc ?_) hkl
  rintro i ⟨t, ht⟩
  rw [hrow] at ht
  obtain ⟨j, hj⟩ := List.getElem?_of_mem ht
  exact hdone j i t (by have := (List.getElem?_eq_some_iff.1 hj).1; omega) hj
theorem loop2 (u : Und adj) (hn : adj.length ≤ 100000) (hrl : RowLe adj 1000000) (ha : a < adj.length) (D : List Int) (Q : List Nat) (B : BF adj b D Q 0) :
  Ret (loopL (L27_2 adj (a : Int) (b : Int)) (0, D, nI Q)) (SQ adj a b) := by
 refine ret_loop (I2 adj b) (fun q => adj.length - q.1.toNat) ?_ _ ⟨0, Q, rfl, rfl, B, by omega⟩
 rintro ⟨k', D, queue⟩ ⟨k, Q, e1, e2, B, hk⟩
 dsimp only at e1 e2 B
 subst e1 e2
 have hcnt := B.cnt
 simp only [L27_2, nI_len, wp, Sum.elim_inl, Sum.elim_inr, ne_eq, ge_iff_le, gt_iff_lt, reduceCtorEq, forall_const, Bool.true_eq_false, Bool.false_eq_true, implies_true]
 refine ⟨fun hlt => ?_, fun hge => ?_⟩
 ·have hkl : k < Q.length := by omega
  obtain ⟨c, hc⟩ : ∃ c, Q[k]? = some c := ⟨_, List.getElem?_eq_getElem hkl⟩
  obtain ⟨d, hDc, hdk⟩ := B.q1 k c hc
  have hcl : c < adj.length := by rw [← B.dl]; exact (List.getElem?_eq_some_iff.1 hDc).1
  have hg : gI adj (c : Int) = some adj[c] := by rw [gI_nat]; exact List.getElem?_eq_getElem hcl
  simp only [ret_eq (nI_at hc), ret_eq hg]
  refine loop3 u hn hrl k c adj[c] (by simp [hcl]) D Q B hc fun D' Q' B' hk' => ⟨⟨k + 1, Q', rfl, rfl, B', hk'⟩, ?_⟩
  show adj.length - (((k + 1 : Nat) : Int)).toNat < adj.length - ((k : Int)).toNat
  omega
 ·have hD := B.dist (by omega)
  have haD : a < D.length := by rw [hD.len]; exact ha
  have hDa : D[a]? = some D[a] := List.getElem?_eq_getElem haD
  simp only [ret_eq (gI_D hDa)]
  have hlo := hD.lo a _ hDa
  refine ⟨fun hneg => ⟨D, hD, by rw [shortM, atD_of hDa, if_pos hneg]⟩, fun hpos => ?_⟩
  obtain ⟨da, hda⟩ : ∃ da : Nat, D[a] = (da : Int) := ⟨D[a].toNat, by omega⟩
  refine Ret.mono (loop4 u hD hn hrl (by rw [hDa, hda])) fun r _ hr => ⟨D, hD, ?_⟩
  rw [shortM, atD_of hDa, if_neg (by omega), hr, hda]; rfl
theorem F27_ok (u : Und adj) (hn : adj.length ≤ 100000) (hrl : RowLe adj 1000000) (ha : a < adj.length) (hb : b < adj.length) : Ret (F27 adj (a : Int) (b : Int)) (SQ adj a b) := by
 simp only [F27, wp, Sum.elim_inl, Sum.elim_inr, ne_eq, ge_iff_le, gt_iff_lt, reduceCtorEq, forall_const, Bool.true_eq_false, Bool.false_eq_true, implies_true]
 refine ⟨fun _ => ?_, fun h => absurd h (by omega)⟩
 refine ret_loop (fun q : Int × List Int => ∃ k : Nat, q.1 = (k : Int) ∧ k ≤ adj.length ∧ q.2.length = adj.length ∧ ∀ i : Nat, i < k → q.2[i]? = some (-1)) (fun q => adj.length - q.1.toNat) ?_ _ ⟨0, rfl, by omega, by simp, fun i hi => by omega⟩
 rintro ⟨x6, D⟩ ⟨k, e1, hk, hl, hd⟩
 dsimp only at e1 hl hd
 subst e1
 simp only [L27_1, List.length_replicate, Int.toNat_natCast, wp, Sum.elim_inl, Sum.elim_inr, ne_eq, ge_iff_le, gt_iff_lt, reduceCtorEq, forall_const, Bool.true_eq_false, Bool.false_eq_true, implies_true]
 refine ⟨fun hlt => ret_gI (by omega) (by omega) fun y hy hm => ?_, fun hge => ?_⟩
 ·have hw := wrap_succ k (by omega)
  simp only [ret_eq hy, hw]
  refine ⟨⟨k + 1, rfl, by omega, by rw [setI_len, hl], ?_⟩, by omega⟩
  intro i hi
  rw [setI_nat]
  by_cases e : k = i
  ·subst e; rw [List.getElem?_set_self (by omega)]
  ·rw [List.getElem?_set_ne e]; exact hd i (by omega)
 ·have hkn : k = adj.length := by omega
  have hDe : D = List.replicate adj.length (-1) := by
   apply List.ext_getElem?
   intro i
   by_cases hi : i < adj.length
   ·rw [hd i (by omega)]; simp [hi]
   ·rw [List.getElem?_eq_none (by omega), List.getElem?_eq_none (by simp; omega)]
  refine ret_gI (by omega) (by omega) fun y hy hm => ?_
  simp only [ret_eq hy]
  rw [hDe]
  exact loop2 u hn hrl ha _ [b] (BF.start adj b hb)
end

theorem F8_ok (s : SatT) (a b below : Int) (hs : s.2.1.length ≤ 400000) (hn : s.1.length ≤ 100000) : Ret (F8 s a b below) fun r => PathSays s a b below r.1 r.2 := by
 simp only [F8, F26_eq, wp, Sum.elim_inl, Sum.elim_inr, ne_eq, ge_iff_le, gt_iff_lt, reduceCtorEq, forall_const, Bool.true_eq_false, Bool.false_eq_true, implies_true]
 by_cases ha : inR s.1.length a
 ·by_cases hb : inR s.1.length b
  ·simp only [ha, hb, wp, Sum.elim_inl, Sum.elim_inr, ne_eq, ge_iff_le, gt_iff_lt, reduceCtorEq, forall_const, Bool.true_eq_false, Bool.false_eq_true, implies_true, J8_1, F28_eq s below hs (by omega)]
   obtain ⟨i, rfl⟩ : ∃ i : Nat, a = (i : Int) := ⟨a.toNat, by have := ha.1; omega⟩
   obtain ⟨j, rfl⟩ : ∃ j : Nat, b = (j : Int) := ⟨b.toNat, by have := hb.1; omega⟩
   have hgl : (grM s below).length = s.1.length := edgesM_len _ _ _
   have hrl : RowLe (grM s below) 1000000 := fun r hr => by have := edgesM_le _ _ _ r hr; omega
   refine Ret.mono (F27_ok (edges_und _ _ _) (by omega) hrl (by have := ha.2; omega) (by have := hb.2; omega)) fun r _ hr => ?_
   obtain ⟨D, hD, e⟩ := hr
   exact .inr ⟨ha, hb, D, hD, e⟩
  ·simp only [ha, hb, wp, Sum.elim_inl, Sum.elim_inr, ne_eq, ge_iff_le, gt_iff_lt, reduceCtorEq, forall_const, Bool.true_eq_false, Bool.false_eq_true, implies_true, J8_1]
   exact .inl ⟨fun h => hb h.2, rfl, rfl⟩
 ·simp only [ha, wp, Sum.elim_inl, Sum.elim_inr, ne_eq, ge_iff_le, gt_iff_lt, reduceCtorEq, forall_const, Bool.true_eq_false, Bool.false_eq_true, implies_true, J8_1]
  exact .inl ⟨fun h => ha h.1, rfl, rfl⟩
end Go.Dat
/-
 The nodes that the laws are tried on.
-/
namespace Go.Dat
open Go.Eng
set_option linter.unusedSimpArgs false
set_option linter.unusedVariables false

theorem F63_eq (ok : Bool) (n : Int) : F63 ok n = some (bif ok then n else 0) := by cases ok <;> rfl
theorem F64_ok (k : List Int) (h : k.length ≤ 1000000) : Ret (F64 k) fun _ => True := by
 unfold F64
 refine ret_loop (fun i : Int => ∃ n : Nat, i = n ∧ n ≤ k.length) (fun i => k.length - i.toNat) ?_ _ ⟨0, rfl, by omega⟩
 rintro _ ⟨n, rfl, hn⟩
 simp only [L64_1, wp, Sum.elim_inl, Sum.elim_inr, ne_eq, ge_iff_le, gt_iff_lt, reduceCtorEq, forall_const, Bool.true_eq_false, Bool.false_eq_true, implies_true]
 refine fun hlt => ret_gI (by omega) hlt fun y hy hm => ?_
 have hw := wrap_succ n (by omega)
 simp only [wp, Sum.elim_inl, Sum.elim_inr, ne_eq, ge_iff_le, gt_iff_lt, reduceCtorEq, forall_const, Bool.true_eq_false, Bool.false_eq_true, implies_true, hw]
 exact fun _ => ⟨⟨n + 1, rfl, by omega⟩, by omega⟩
theorem F64_nil : F64 [] = some true := by
 unfold F64
 exact loopL_end rfl
theorem F65_ok (op : Int) : Ret (F65 op) fun _ => True := by
 simp only [F65, J65_1, wp, Sum.elim_inl, Sum.elim_inr, ne_eq, ge_iff_le, gt_iff_lt, reduceCtorEq, forall_const, Bool.true_eq_false, Bool.false_eq_true, implies_true]
theorem F62_ok (op n : Int) : Ret (F62 op n) fun _ => True := by
 simp only [F62, wp, Sum.elim_inl, Sum.elim_inr, ne_eq, ge_iff_le, gt_iff_lt, reduceCtorEq, forall_const, Bool.true_eq_false, Bool.false_eq_true, implies_true]
 refine fun _ => Ret.mono (F65_ok op) fun r _ _ => ?_
 simp only [J62_1, wp, Sum.elim_inl, Sum.elim_inr, ne_eq, ge_iff_le, gt_iff_lt, reduceCtorEq, forall_const, Bool.true_eq_false, Bool.false_eq_true, implies_true]
/-- the number of kids of an operation -/
def arity (op : Int) : Int × Bool :=
 if op = 1 ∨ op = 2 ∨ op = 3 ∨ op = 26 then (0, true) else
 if op = 20 ∨ op = 21 ∨ op = 24 ∨ op = 25 then (1, true) else
 if (4 ≤ op ∧ op ≤ 19) ∨ op = 23 ∨ op = 27 ∨ op = 29 then (2, true) else
 if op = 22 ∨ op = 28 then (3, true) else
 if op = 30 ∨ op = 31 then (-1, true) else (0, false)
theorem F50_eq (op : Int) : F50 op = some (arity op) := by
 refine Ret.eq ?_
 simp only [F50, J50_1, J50_2, J50_3, J50_4, J50_5, wp, Sum.elim_inl, Sum.elim_inr, ne_eq, ge_iff_le, gt_iff_lt, reduceCtorEq, forall_const, Bool.true_eq_false, Bool.false_eq_true, implies_true, arity]
 refine ⟨fun h => ?_, fun h => ?_⟩ <;> (repeat' first | apply And.intro | intro _) <;> (repeat' split) <;> first | rfl | (exfalso; omega)
theorem slI_le {α : Type} (l : List α) (a b : Int) : (slI l a b).length ≤ l.length := by
 unfold slI; simp; omega
theorem J61_ok (l : List NodeT) (n : NodeT) (k : List Int) (hk : k.length = n.2.2.length) (hl : k.length ≤ 1000000) (hkid : ∀ x ∈ n.2.2, 0 ≤ x ∧ x < l.length) (hb : ∀ x ∈ l, x.2.2.length ≤ 1000000) (ha : (arity n.1).2 = true) (hr : 0 ≤ (arity n.1).1 → (n.2.2.length : Int) = (arity n.1).1) : Ret (J61_1 l n k false) fun _ => True := by
 have h22 : n.1 = 22 → k.length = 3 := fun h => by rw [h] at hr; have := hr (by decide); rw [show (arity 22).1 = 3 from rfl] at this; omega
 have h28 : n.1 = 28 → k.length = 3 := fun h => by rw [h] at hr; have := hr (by decide); rw [show (arity 28).1 = 3 from rfl] at this; omega
 have h23 : n.1 = 23 → k.length = 2 := fun h => by rw [h] at hr; have := hr (by decide); rw [show (arity 23).1 = 2 from rfl] at this; omega
 have h27 : n.1 = 27 → k.length = 2 := fun h => by rw [h] at hr; have := hr (by decide); rw [show (arity 27).1 = 2 from rfl] at this; omega
 have h29 : n.1 = 29 → k.length = 2 := fun h => by rw [h] at hr; have := hr (by decide); rw [show (arity 29).1 = 2 from rfl] at this; omega
 have h24 : n.1 = 24 → k.length = 1 := fun h => by rw [h] at hr; have := hr (by decide); rw [show (arity 24).1 = 1 from rfl] at this; omega
 have h25 : n.1 = 25 → k.length = 1 := fun h => by rw [h] at hr; have := hr (by decide); rw [show (arity 25).1 = 1 from rfl] at this; omega
 have hd : Int.tdiv (k.length : Int) 2 = ((k.length / 2 : Nat) : Int) := by rw [Int.tdiv_eq_ediv_of_nonneg (by omega)]; rfl
 have hm : Int.tmod (k.length : Int) 2 = ((k.length % 2 : Nat) : Int) := by rw [Int.tmod_eq_emod_of_nonneg (by omega)]; rfl
 have hq : IntKind.wrap .i64 ((k.length / 2 : Nat) : Int) = ((k.length / 2 : Nat) : Int) := wrap_id (by omega) (by omega)
 have hq1 : IntKind.wrap .i64 (((k.length / 2 : Nat) : Int) + 1) = ((k.length / 2 + 1 : Nat) : Int) := wrap_succ _ (by omega)
 have hq2 : IntKind.wrap .i64 (((k.length / 2 : Nat) : Int) + 2) = ((k.length / 2 + 2 : Nat) : Int) := by rw [wrap_id (by omega) (by omega)]; omega
 have h64 : ∀ a b : Int, Ret (F64 (slI k a b)) fun _ => True := fun a b => F64_ok _ (by have := slI_le k a b; omega)
 have h64' : Ret (F64 k) fun _ => True := F64_ok _ hl
 simp only [J61_1, J61_2, J61_3, J61_4, J61_5, J61_6, J61_7, J61_8, J61_9, F63_eq, wp, Sum.elim_inl, Sum.elim_inr, ne_eq, ge_iff_le, gt_iff_lt, reduceCtorEq, forall_const, Bool.true_eq_false, Bool.false_eq_true, implies_true, hd, hm, hq, hq1, hq2, h64, h64']
 have hkid0 : n.1 = 25 → Ret (gI n.2.2 0) fun a => Ret (gI l a) fun a => True := fun h => ret_gI (by omega) (by have := h25 h; omega) fun x _ hx => ret_gI (hkid x hx).1 (hkid x hx).2 fun _ _ _ => trivial
 repeat' first | apply And.intro | (intro _) | exact hkid0 ‹_› | exact F64_ok _ hl | refine Ret.mono (h64 _ _) fun _ _ _ => ?_ | refine ret_gI (by omega) (by omega) fun _ _ _ => ?_ | trivial | omega
theorem F61_ok (l : List NodeT) (n : NodeT) (k : List Int) (hk : k.length = n.2.2.length) (hl : k.length ≤ 1000000) (hkid : ∀ x ∈ n.2.2, 0 ≤ x ∧ x < l.length) (hb : ∀ x ∈ l, x.2.2.length ≤ 1000000) : Ret (F61 l n k) fun _ => True := by
 have ht : Ret (J61_1 l n k true) fun _ => True := by simp only [J61_1, wp, Sum.elim_inl, Sum.elim_inr, ne_eq, ge_iff_le, gt_iff_lt, reduceCtorEq, forall_const, Bool.true_eq_false, Bool.false_eq_true, implies_true]
 have hf := J61_ok l n k hk hl hkid hb
 simp only [F61, F50_eq, wp, Sum.elim_inl, Sum.elim_inr, ne_eq, ge_iff_le, gt_iff_lt, reduceCtorEq, forall_const, Bool.true_eq_false, Bool.false_eq_true, implies_true]
 refine ⟨fun _ => ht, fun h1 => ⟨fun h2 => ⟨fun _ => ht, fun h3 => ?_⟩, fun h2 => ?_⟩⟩
 ·refine Ret.mono (F62_ok _ _) fun b _ _ => ?_
  cases b
  ·exact ht
  ·exact hf h1 (fun _ => h3)
 ·refine Ret.mono (F62_ok _ _) fun b _ _ => ?_
  cases b
  ·exact ht
  ·exact hf h1 (fun h => by omega)
end Go.Dat
/-
 The sorts of nodes, and nodes of a sort.
-/
namespace Go.Dat
open Go.Eng
set_option linter.unusedSimpArgs false
set_option linter.unusedVariables false

theorem F61_par (l : List NodeT) (m : Int) (hm : m = 0 ∨ m = 1) : F61 l (2, m, []) [] = some 1 := by
 rcases hm with rfl | rfl <;> simp [F61, F50_eq, arity, F62, F65, J62_1, J61_1, J61_5, F63, F64_nil]
theorem F61_ent (l : List NodeT) : F61 l (26, 0, []) [] = some 2 := by
 simp [F61, F50_eq, arity, F62, F65, J65_1, J62_1, J61_1, J61_5, F63, F64_nil]
/-- the operands of a node lie below i -/
def KidsIn (n : NodeT) (i : Int) : Prop := ∀ x ∈ n.2.2, 0 ≤ x ∧ x < i
theorem loop59 (l : List NodeT) (hk : ∀ x ∈ l, x.2.2.length ≤ 100000) (i : Nat) (n : NodeT) (hn : l[i]? = some n) (out : List Int) (ho : out.length = i)
  {Q : (Bool × List Int × List Int) ⊕ ((List Int) ⊕ ((Int × List Int) ⊕ (List Int))) → Prop} (hQ : ∀ ok k, (ok = true → k.length = n.2.2.length ∧ KidsIn n i) → (n.2.2 = [] → ok = true ∧ k = []) → Q (.inl (ok, out, k))) :
  Ret (loopL (L59_2 l (i : Int)) (true, 0, out, [])) Q := by
 have hb := hk n (List.mem_of_getElem? hn)
 refine ret_loop (fun q : Bool × Int × List Int × List Int => q.1 = true ∧ q.2.2.1 = out ∧ ∃ j : Nat, q.2.1 = j ∧ j ≤ n.2.2.length ∧ q.2.2.2.length = j ∧ ∀ (p : Nat) x, p < j → n.2.2[p]? = some x → 0 ≤ x ∧ x < (i : Int)) (fun q => n.2.2.length - q.2.1.toNat) ?_ _ ⟨rfl, rfl, 0, rfl, by omega, rfl, fun p x hp => by omega⟩
 rintro ⟨ok, j', out', k⟩ ⟨h1, h2, j, h3, hj, h4, hin⟩
 dsimp only at h1 h2 h3 h4
 subst h1 h2 h3
 have hg : gI l (i : Int) = some n := by rw [gI_nat, hn]
 simp only [L59_2, wp, Sum.elim_inl, Sum.elim_inr, ne_eq, ge_iff_le, gt_iff_lt, reduceCtorEq, forall_const, Bool.true_eq_false, Bool.false_eq_true, implies_true, ret_eq hg]
 refine ⟨fun hlt => ret_gI (by omega) hlt fun y hy hm => ?_, fun hge => ?_⟩
 ·have hbad : Q (.inl (false, out', k)) := hQ _ _ (fun h => by cases h) (fun h => by rw [h] at hm; cases hm)
  rw [gI_nat] at hy
  simp only [J59_3, wp, Sum.elim_inl, Sum.elim_inr, ne_eq, ge_iff_le, gt_iff_lt, reduceCtorEq, forall_const, Bool.true_eq_false, Bool.false_eq_true, implies_true]
  refine ⟨fun _ => hbad, fun h0 => ⟨fun _ => hbad, fun h1 => ret_gI h0 (by omega) fun z hz _ => ?_⟩⟩
  simp only [ret_eq hz, wp, Sum.elim_inl, Sum.elim_inr, ne_eq, ge_iff_le, gt_iff_lt, reduceCtorEq, forall_const, Bool.true_eq_false, Bool.false_eq_true, implies_true]
  refine ⟨fun _ => hbad, fun _ => ⟨fun _ => ?_, fun h => absurd h (by simp only [List.length_cons, List.length_nil]; omega)⟩⟩
  have hw := wrap_succ j (by omega)
  rw [hw]
  refine ⟨⟨j + 1, rfl, by omega, by simp; omega, fun p x hp hx => ?_⟩, by omega⟩
  by_cases e : p < j
  ·exact hin p x e hx
  ·have : p = j := by omega
   subst this
   rw [hy] at hx; cases hx
   omega
 ·refine hQ _ _ (fun _ => ⟨by omega, fun x hx => ?_⟩) (fun h => ⟨rfl, ?_⟩)
  ·obtain ⟨p, hp⟩ := List.getElem?_of_mem hx
   exact hin p x (by have := (List.getElem?_eq_some_iff.1 hp).1; omega) hp
  ·rw [h] at hj
   exact List.eq_nil_of_length_eq_zero (by simp only [List.length_nil] at hj; omega)
/-- what Sorts says of the nodes that are always there -/
def SortsQ (l : List NodeT) (m : Nat) (out : List Int) : Prop := out.length = m ∧ (∀ (i : Nat) (c : Int), (c = 0 ∨ c = 1) → i < m → l[i]? = some (2, c, []) → out[i]? = some 1) ∧ (∀ i : Nat, i < m → l[i]? = some (26, 0, []) → out[i]? = some 2)
theorem SortsQ.push {l : List NodeT} {m : Nat} {out : List Int} (h : SortsQ l m out) {r : Int} (h1 : ∀ c : Int, (c = 0 ∨ c = 1) → l[m]? = some (2, c, []) → r = 1) (h2 : l[m]? = some (26, 0, []) → r = 2) : SortsQ l (m + 1) (out ++ [r]) := by
 obtain ⟨a, b, c⟩ := h
 refine ⟨by simp [a], fun i v hv hi hl => ?_, fun i hi hl => ?_⟩
 ·by_cases e : i < m
  ·rw [List.getElem?_append_left (by omega)]; exact b i v hv e hl
  ·have : i = m := by omega
   subst this
   rw [List.getElem?_append_right (by omega), a, h1 v hv hl]; simp
 ·by_cases e : i < m
  ·rw [List.getElem?_append_left (by omega)]; exact c i e hl
  ·have : i = m := by omega
   subst this
   rw [List.getElem?_append_right (by omega), a, h2 hl]; simp
theorem F59_ok (l : List NodeT) (hl : l.length ≤ 100000) (hk : ∀ x ∈ l, x.2.2.length ≤ 100000) : Ret (F59 l) (SortsQ l l.length) := by
 unfold F59
 refine ret_loop (fun q : Int × List Int => ∃ m : Nat, q.1 = m ∧ m ≤ l.length ∧ SortsQ l m q.2) (fun q => l.length - q.1.toNat) ?_ _ ⟨0, rfl, by omega, rfl, fun i v hv hi => by omega, fun i hi => by omega⟩
 rintro ⟨i', out⟩ ⟨m, e, hm, hs⟩
 dsimp only at e hs
 subst e
 simp only [L59_1, wp, Sum.elim_inl, Sum.elim_inr, ne_eq, ge_iff_le, gt_iff_lt, reduceCtorEq, forall_const, Bool.true_eq_false, Bool.false_eq_true, implies_true]
 refine ⟨fun hlt => ?_, fun hge => ?_⟩
 ·have hml : m < l.length := by omega
  have hn : l[m]? = some l[m] := List.getElem?_eq_getElem hml
  have hg : gI l (m : Int) = some l[m] := by rw [gI_nat, hn]
  have ho := hs.1
  have hw := wrap_succ m (by omega)
  refine loop59 l hk m l[m] hn out ho fun ok k h1 h2 => ?_
  simp only [wp, Sum.elim_inl, Sum.elim_inr, ne_eq, ge_iff_le, gt_iff_lt, reduceCtorEq, forall_const, Bool.true_eq_false, Bool.false_eq_true, implies_true, J59_2, ret_eq hg]
  cases ok
  ·simp only [wp, Sum.elim_inl, Sum.elim_inr, ne_eq, ge_iff_le, gt_iff_lt, reduceCtorEq, forall_const, Bool.true_eq_false, Bool.false_eq_true, implies_true]
   refine ⟨fun _ => ?_, fun h => absurd h (by simp only [List.length_cons, List.length_nil]; omega)⟩
   simp only [wp, Sum.elim_inl, Sum.elim_inr, ne_eq, ge_iff_le, gt_iff_lt, reduceCtorEq, forall_const, Bool.true_eq_false, Bool.false_eq_true, implies_true, J59_1, hw]
   refine ⟨⟨m + 1, rfl, by omega, hs.push (fun c hc h => ?_) (fun h => ?_)⟩, by omega⟩
   all_goals
    rw [hn] at h
    have := (h2 (by rw [Option.some.inj h])).1
    cases this
  ·obtain ⟨k1, k2⟩ := h1 rfl
   have hb := hk l[m] (List.getElem_mem hml)
   simp only [wp, Sum.elim_inl, Sum.elim_inr, ne_eq, ge_iff_le, gt_iff_lt, reduceCtorEq, forall_const, Bool.true_eq_false, Bool.false_eq_true, implies_true]
   refine Ret.mono (F61_ok l l[m] k k1 (by omega) (fun x hx => by have := k2 x hx; omega) (fun x hx => by have := hk x hx; omega)) fun r hr _ => ?_
   refine ⟨fun _ => ?_, fun h => absurd h (by simp only [List.length_cons, List.length_nil]; omega)⟩
   simp only [wp, Sum.elim_inl, Sum.elim_inr, ne_eq, ge_iff_le, gt_iff_lt, reduceCtorEq, forall_const, Bool.true_eq_false, Bool.false_eq_true, implies_true, J59_1, hw]
   refine ⟨⟨m + 1, rfl, by omega, hs.push (fun c hc h => ?_) (fun h => ?_)⟩, by omega⟩
   all_goals
    rw [hn] at h
    have h := Option.some.inj h
    have hk0 := (h2 (by rw [h])).2
    rw [h, hk0] at hr
   ·rw [F61_par l c hc] at hr; exact (Option.some.inj hr).symm
   ·rw [F61_ent] at hr; exact (Option.some.inj hr).symm
 ·have : m = l.length := by omega
  subst this
  exact hs

/-- a node of a sort -/
theorem F51_ok (l : List NodeT) (hl : l.length ≤ 100000) (hk : ∀ x ∈ l, x.2.2.length ≤ 100000) (h0 : l[0]? = some (2, 0, [])) (h2 : l[2]? = some (26, 0, [])) (sort n : Int) (hs : sort = 1 ∨ sort = 2) : Ret (F51 l sort n) fun r => 0 ≤ r ∧ r < l.length := by
 have l2 : 2 < l.length := (List.getElem?_eq_some_iff.1 h2).1
 simp only [F51, wp, Sum.elim_inl, Sum.elim_inr, ne_eq, ge_iff_le, gt_iff_lt, reduceCtorEq, forall_const, Bool.true_eq_false, Bool.false_eq_true, implies_true]
 refine Ret.mono (F59_ok l hl hk) fun so _ ⟨s1, s2, s3⟩ => ?_
 have g0 := s2 0 0 (.inl rfl) (by omega) h0
 have g2 := s3 2 l2 h2
 refine ret_loop (fun q : Int × List Int => ∃ m : Nat, q.1 = m ∧ m ≤ l.length ∧ q.2.length ≤ m ∧ (∀ x ∈ q.2, 0 ≤ x ∧ x < l.length) ∧ (∀ i : Nat, i < m → so[i]? = some sort → q.2 ≠ [])) (fun q => l.length - q.1.toNat) ?_ _ ⟨0, rfl, by omega, by simp, (fun x hx => by cases hx), fun i hi => by omega⟩
 rintro ⟨i', all⟩ ⟨m, e, hm, ha, hx, hne⟩
 dsimp only at e ha hx hne
 subst e
 simp only [L51_1, J51_1, wp, Sum.elim_inl, Sum.elim_inr, ne_eq, ge_iff_le, gt_iff_lt, reduceCtorEq, forall_const, Bool.true_eq_false, Bool.false_eq_true, implies_true]
 refine ⟨fun hlt => ret_gI (by omega) (by omega) fun y hy _ => ?_, fun hge => ?_⟩
 ·have hw := wrap_succ m (by omega)
  rw [gI_nat] at hy
  rw [hw]
  refine ⟨fun h => ⟨fun _ => ?_, fun h => absurd h (by simp only [List.length_cons, List.length_nil]; omega)⟩, fun h => ?_⟩
  ·refine ⟨⟨m + 1, rfl, by omega, by simp; omega, fun x h => ?_, fun i _ _ => by simp⟩, by omega⟩
   rcases List.mem_append.1 h with h | h
   ·exact hx x h
   ·rw [List.mem_singleton.1 h]; omega
  ·refine ⟨⟨m + 1, rfl, by omega, by omega, hx, fun i hi hso => ?_⟩, by omega⟩
   by_cases e : i < m
   ·exact hne i e hso
   ·have : i = m := by omega
    subst this
    rw [hy] at hso; exact absurd (Option.some.inj hso) h
 ·have hnn : all ≠ [] := by
   rcases hs with rfl | rfl
   ·exact hne 0 (by omega) g0
   ·exact hne 2 (by omega) g2
  have hpos : 0 < all.length := List.length_pos_iff.2 hnn
  refine F15_ok (by omega) (by omega) fun r r0 r1 => ?_
  rw [wrap_id (n := (all.length : Int) - 1) (by omega) (by omega), wrap_id (by omega) (by omega)]
  refine ret_gI (by omega) (by omega) fun y hy hm => ?_
  simp only [ret_eq hy]
  exact hx y hm
end Go.Dat
/-
 RawSaturation as a plain function.
-/
namespace Go.Dat
open Go.Eng
set_option linter.unusedSimpArgs false
set_option linter.unusedVariables false
set_option linter.unusedSectionVars false

theorem F48_ok (a b : NodeT) (ha : a.2.2.length ≤ 1000000) : Ret (F48 a b) fun _ => True := by
 have key : (a.2.2.length : Int) = (b.2.2.length : Int) → Ret (loopL (L48_1 a b) 0) fun _ => True := fun hab => by
  refine ret_loop (fun i : Int => ∃ n : Nat, i = n ∧ n ≤ a.2.2.length) (fun i => a.2.2.length - i.toNat) ?_ _ ⟨0, rfl, by omega⟩
  rintro _ ⟨n, rfl, hn⟩
  simp only [L48_1, wp, Sum.elim_inl, Sum.elim_inr, ne_eq, ge_iff_le, gt_iff_lt, reduceCtorEq, forall_const, Bool.true_eq_false, Bool.false_eq_true, implies_true]
  refine fun hlt => ret_gI (by omega) hlt fun y hy hm => ret_gI (by omega) (by omega) fun z hz hm' => ?_
  have hw := wrap_succ n (by omega)
  simp only [wp, Sum.elim_inl, Sum.elim_inr, ne_eq, ge_iff_le, gt_iff_lt, reduceCtorEq, forall_const, Bool.true_eq_false, Bool.false_eq_true, implies_true, hw]
  exact fun _ => ⟨⟨n + 1, rfl, by omega⟩, by omega⟩
 simp only [F48, J48_1, wp, Sum.elim_inl, Sum.elim_inr, ne_eq, ge_iff_le, gt_iff_lt, reduceCtorEq, forall_const, Bool.true_eq_false, Bool.false_eq_true, implies_true]
 refine fun _ _ => ?_
 exact key
theorem F54_ok (l : List NodeT) (n : NodeT) (hl : l.length ≤ 100000) (hk : ∀ x ∈ l, x.2.2.length ≤ 100000) : Ret (F54 l n) fun _ => True := by
 unfold F54
 refine ret_loop (fun i : Int => ∃ n : Nat, i = n ∧ n ≤ l.length) (fun i => l.length - i.toNat) ?_ _ ⟨0, rfl, by omega⟩
 rintro _ ⟨m, rfl, hm⟩
 simp only [L54_1, wp, Sum.elim_inl, Sum.elim_inr, ne_eq, ge_iff_le, gt_iff_lt, reduceCtorEq, forall_const, Bool.true_eq_false, Bool.false_eq_true, implies_true]
 refine fun hlt => ret_gI (by omega) hlt fun y hy hy' => Ret.mono (F48_ok y n (by have := hk y hy'; omega)) fun r _ _ => ?_
 have hw := wrap_succ m (by omega)
 simp only [wp, Sum.elim_inl, Sum.elim_inr, ne_eq, ge_iff_le, gt_iff_lt, reduceCtorEq, forall_const, Bool.true_eq_false, Bool.false_eq_true, implies_true, hw]
 exact fun _ => ⟨⟨m + 1, rfl, by omega⟩, by omega⟩
theorem F49_ok (n raw : Int) : Ret (F49 n raw) fun _ => True := by
 simp only [F49, wp, Sum.elim_inl, Sum.elim_inr, ne_eq, ge_iff_le, gt_iff_lt, reduceCtorEq, forall_const, Bool.true_eq_false, Bool.false_eq_true, implies_true]
 refine F15_ok (by omega) (by omega) fun r r0 r1 => ⟨fun h => ?_, fun h => ?_⟩
 ·refine ret_gI r0 (by simp only [List.length_cons, List.length_nil]; omega) fun y hy _ => ?_
  simp only [ret_eq hy]
 ·exact fun _ => F15_ok (by omega) (by omega) fun _ _ _ => trivial
theorem F60_ok (op : Int) : Ret (F60 op) fun _ => True := by
 simp only [F60, J60_1, wp, Sum.elim_inl, Sum.elim_inr, ne_eq, ge_iff_le, gt_iff_lt, reduceCtorEq, forall_const, Bool.true_eq_false, Bool.false_eq_true, implies_true]
theorem F52_ok (op k : Int) : Ret (F52 op k) fun r => r = 1 ∨ r = 2 := by
 have t : ∀ b, Ret (J52_1 b) fun r => r = 1 ∨ r = 2 := fun b => by cases b <;> simp [J52_1, ret_some]
 simp only [F52, wp, Sum.elim_inl, Sum.elim_inr, ne_eq, ge_iff_le, gt_iff_lt, reduceCtorEq, forall_const, Bool.true_eq_false, Bool.false_eq_true, implies_true]
 exact ⟨fun _ => Ret.mono (F60_ok op) fun r _ _ => ⟨fun _ => t _, fun _ => ⟨fun _ => t _, fun _ => t _⟩⟩, fun _ => t _⟩
theorem F53_ok (x : Int) (l : List Int) : Ret (F53 x l) fun _ => True := by
 simp only [F53, wp, Sum.elim_inl, Sum.elim_inr, ne_eq, ge_iff_le, gt_iff_lt, reduceCtorEq, forall_const, Bool.true_eq_false, Bool.false_eq_true, implies_true]
 refine fun h => ret_gI (by omega) (by omega) fun y hy _ => ?_
 simp only [ret_eq hy, wp, Sum.elim_inl, Sum.elim_inr, ne_eq, ge_iff_le, gt_iff_lt, reduceCtorEq, forall_const, Bool.true_eq_false, Bool.false_eq_true, implies_true]
 exact fun h => absurd h (by omega)
theorem F37_ok {m d : Int} {Q : Int × Int → Prop} (hm : 0 < m) (h2 : m ≤ 1000000000) (h : ∀ r d', 0 ≤ r → r < m → Q (r, d')) : Ret (F37 m d) Q := by
 simp only [F37, wp, Sum.elim_inl, Sum.elim_inr, ne_eq, ge_iff_le, gt_iff_lt, reduceCtorEq, forall_const, Bool.true_eq_false, Bool.false_eq_true, implies_true]
 refine F15_ok hm (by omega) fun r r0 r1 => ⟨by omega, fun _ => h _ _ r0 r1⟩
theorem F38_ok (l : List NodeT) (sort : Int) (hl : l.length ≤ 1000000) (h0 : 0 < l.length) : Ret (F38 l sort) fun r => 0 ≤ r ∧ r < l.length := by
 unfold F38
 rw [wrap_id (by omega) (by omega)]
 refine ret_loop (fun i : Int => -1 ≤ i ∧ i < l.length) (fun i => (i + 1).toNat) ?_ _ (by omega)
 rintro i ⟨h1, h2⟩
 have t : 0 ≤ i → ∀ b, Ret (J38_1 sort i b) (StepQ (fun i : Int => -1 ≤ i ∧ i < l.length) (fun i => (i + 1).toNat) (fun r : Int => 0 ≤ r ∧ r < l.length) i) := fun hi b => by
  cases b <;> simp only [J38_1, wp, Sum.elim_inl, Sum.elim_inr, ne_eq, ge_iff_le, gt_iff_lt, reduceCtorEq, forall_const, Bool.true_eq_false, Bool.false_eq_true, implies_true] <;> rw [wrap_id (by omega) (by omega)] <;> exact ⟨fun _ => ⟨by omega, by omega⟩, fun _ => by omega⟩
 simp only [L38_1, wp, Sum.elim_inl, Sum.elim_inr, ne_eq, ge_iff_le, gt_iff_lt, reduceCtorEq, forall_const, Bool.true_eq_false, Bool.false_eq_true, implies_true]
 refine ⟨fun hlt => ret_gI (by omega) (by omega) fun y hy hm => ?_, fun _ => by omega⟩
 simp only [ret_eq hy, wp, Sum.elim_inl, Sum.elim_inr, ne_eq, ge_iff_le, gt_iff_lt, reduceCtorEq, forall_const, Bool.true_eq_false, Bool.false_eq_true, implies_true, t hlt]

/-- a list of nodes under construction -/
structure Good (l : List NodeT) (m : Nat) : Prop where
 len : l.length ≤ m + 3
 k : ∀ x ∈ l, x.2.2.length ≤ 3
 h0 : l[0]? = some (2, 0, [])
 h2 : l[2]? = some (26, 0, [])
theorem arity_le (op : Int) : (arity op).1 ≤ 3 := by
 unfold arity
 repeat' split
 all_goals simp
theorem Good.push {l : List NodeT} {m : Nat} (h : Good l m) (n : NodeT) (hn : n.2.2.length ≤ 3) : Good (l ++ [n]) (m + 1) := by
 obtain ⟨a, b, c, d⟩ := h
 have l2 : 2 < l.length := (List.getElem?_eq_some_iff.1 d).1
 refine ⟨by simp; omega, fun x hx => ?_, ?_, ?_⟩
 ·rcases List.mem_append.1 hx with hx | hx
  ·exact b x hx
  ·rw [List.mem_singleton.1 hx]; exact hn
 ·rw [List.getElem?_append_left (by omega)]; exact c
 ·rw [List.getElem?_append_left (by omega)]; exact d
theorem Good.up {l : List NodeT} {m : Nat} (h : Good l m) : Good l (m + 1) := ⟨by have := h.len; omega, h.k, h.h0, h.h2⟩
section
variable (l1 : List Int) (i : Nat) (hi : i < l1.length) (hi2 : i < 14)
 {Q : ((List NodeT) ⊕ ((Int × List NodeT) ⊕ (List NodeT))) → Prop} {out : List NodeT} (hg : Good out i) (hQ : ∀ o, Good o (i + 1) → Q (.inl o))
include hg hQ hi hi2
theorem J35_7_ok (n m : Int) (k : List Int) (hk : k.length ≤ 3) : Ret (J35_7 (out, n, m, k)) Q := by
 simp only [J35_7, wp, Sum.elim_inl, Sum.elim_inr, ne_eq, ge_iff_le, gt_iff_lt, reduceCtorEq, forall_const, Bool.true_eq_false, Bool.false_eq_true, implies_true]
 have := hg.len
 refine Ret.mono (F54_ok out _ (by omega) (fun x hx => by have := hg.k x hx; omega)) fun r _ _ => ?_
 exact ⟨fun _ => ⟨fun _ => hQ _ (hg.push _ hk), fun h => absurd h (by simp only [List.length_cons, List.length_nil]; omega)⟩, fun _ => hQ _ hg.up⟩
theorem J35_6_ok (n m : Int) (k : List Int) (hk : k.length ≤ 3) : Ret (J35_6 l1 (i : Int) (out, n, m, k)) Q := by
 have t : ∀ b, Ret (J35_8 l1 (i : Int) (b, out, n, m, k)) fun a => Ret (Sum.elim J35_7 some a) Q := fun b => by
  cases b
  ·simp only [J35_8, wp, Sum.elim_inl, Sum.elim_inr, ne_eq, ge_iff_le, gt_iff_lt, reduceCtorEq, forall_const, Bool.true_eq_false, Bool.false_eq_true, implies_true]
   exact J35_7_ok l1 i hi hi2 hg hQ n m k hk
  ·simp only [J35_8, wp, Sum.elim_inl, Sum.elim_inr, ne_eq, ge_iff_le, gt_iff_lt, reduceCtorEq, forall_const, Bool.true_eq_false, Bool.false_eq_true, implies_true]
   refine ret_gI (by omega) (by omega) fun y hy _ => F15_ok (by omega) (by omega) fun r r0 r1 => J35_7_ok l1 i hi hi2 hg hQ n r k hk
 simp only [J35_6, wp, Sum.elim_inl, Sum.elim_inr, ne_eq, ge_iff_le, gt_iff_lt, reduceCtorEq, forall_const, Bool.true_eq_false, Bool.false_eq_true, implies_true]
 exact ⟨fun _ => t _, fun _ => t _⟩
theorem J35_5_ok (x n m : Int) (rd : List Int) : Ret (J35_5 l1 (i : Int) (out, x, n, m, rd)) Q := by
 simp only [J35_5, F50_eq, wp, Sum.elim_inl, Sum.elim_inr, ne_eq, ge_iff_le, gt_iff_lt, reduceCtorEq, forall_const, Bool.true_eq_false, Bool.false_eq_true, implies_true]
 have har := arity_le n
 have hgl := hg.len
 refine ret_loop (fun q : Int × List NodeT × Int × Int × Int × List Int × List Int => ∃ j : Nat, q.1 = j ∧ q.2.2.2.2.2.2.length = j ∧ (j : Int) ≤ 3 ∧ q.2.1 = out ∧ q.2.2.2.1 = n) (fun q => 3 - q.1.toNat) ?_ _ ⟨0, rfl, rfl, by omega, rfl, rfl⟩
 rintro ⟨j', out', x', n', m', rd', k⟩ ⟨j, e1, e2, e3, e4, e5⟩
 dsimp only at e1 e2 e4 e5
 subst e1 e4 e5
 simp only [L35_2, wp, Sum.elim_inl, Sum.elim_inr, ne_eq, ge_iff_le, gt_iff_lt, reduceCtorEq, forall_const, Bool.true_eq_false, Bool.false_eq_true, implies_true]
 refine ⟨fun hlt => Ret.mono (F52_ok _ _) fun so _ hso => Ret.mono (F53_ok _ _) fun rr _ _ => Ret.mono (F51_ok out' (by omega) (fun x hx => by have := hg.k x hx; omega) hg.h0 hg.h2 so rr.1 hso) fun q _ _ => ?_, fun hge => ⟨fun _ => ?_, fun _ => ?_⟩⟩
 ·have hw := wrap_succ j (by omega)
  rw [hw]
  exact ⟨fun _ => ⟨⟨j + 1, rfl, by simp; omega, by omega⟩, by omega⟩, fun h => absurd h (by simp only [List.length_cons, List.length_nil]; omega)⟩
 ·refine ret_gI (by omega) (by omega) fun y hy _ => F15_ok (by omega) (by omega) fun r r0 r1 => J35_6_ok l1 i hi hi2 hg hQ _ _ k (by omega)
 ·exact J35_6_ok l1 i hi hi2 hg hQ _ _ k (by omega)
theorem J35_3_ok (x n m : Int) (rd : List Int) : Ret (J35_3 l1 (i : Int) (out, x, n, m, rd)) Q := by
 simp only [J35_3, wp, Sum.elim_inl, Sum.elim_inr, ne_eq, ge_iff_le, gt_iff_lt, reduceCtorEq, forall_const, Bool.true_eq_false, Bool.false_eq_true, implies_true]
 refine ret_gI (by omega) (by omega) fun y hy _ => F15_ok (by omega) (by omega) fun r r0 r1 => ⟨fun _ => ?_, fun _ => ?_⟩
 ·simp only [ret_eq hy, wp, Sum.elim_inl, Sum.elim_inr, ne_eq, ge_iff_le, gt_iff_lt, reduceCtorEq, forall_const, Bool.true_eq_false, Bool.false_eq_true, implies_true]
  exact Ret.mono (F49_ok _ _) fun w _ _ => J35_5_ok l1 i hi hi2 hg hQ _ _ _ _
 ·exact J35_5_ok l1 i hi hi2 hg hQ _ _ _ _
theorem J35_4_ok (b : Bool) (x n m : Int) (rd : List Int) : Ret (J35_4 l1 (i : Int) (b, out, x, n, m, rd)) fun a => Ret (Sum.elim (J35_3 l1 (i : Int)) some a) Q := by
 cases b
 ·simp only [J35_4, wp, Sum.elim_inl, Sum.elim_inr, ne_eq, ge_iff_le, gt_iff_lt, reduceCtorEq, forall_const, Bool.true_eq_false, Bool.false_eq_true, implies_true]
  exact J35_3_ok l1 i hi hi2 hg hQ _ _ _ _
 ·simp only [J35_4, wp, Sum.elim_inl, Sum.elim_inr, ne_eq, ge_iff_le, gt_iff_lt, reduceCtorEq, forall_const, Bool.true_eq_false, Bool.false_eq_true, implies_true]
  refine ret_gI (by omega) (by omega) fun y hy _ => F15_ok (by omega) (by omega) fun r r0 r1 => ret_gI r0 (by simp only [List.length_cons, List.length_nil]; omega) fun z hz _ => ?_
  simp only [ret_eq hz, wp, Sum.elim_inl, Sum.elim_inr, ne_eq, ge_iff_le, gt_iff_lt, reduceCtorEq, forall_const, Bool.true_eq_false, Bool.false_eq_true, implies_true]
  exact J35_3_ok l1 i hi hi2 hg hQ _ _ _ _
end
theorem F35_ok (l : List Int) (b : Bool) : Ret (F35 l b) fun o => Good o 14 := by
 unfold F35
 refine ret_loop (fun q : Int × List NodeT => ∃ m : Nat, q.1 = m ∧ m ≤ 14 ∧ Good q.2 m) (fun q => 14 - q.1.toNat) ?_ _ ⟨0, rfl, by omega, ?_, ?_, rfl, rfl⟩
 ·rintro ⟨i', out⟩ ⟨m, e, hm, hg⟩
  dsimp only at e hg
  subst e
  have up : ∀ k, Good out (m + k) := fun k => by
   induction k with
   | zero => exact hg
   | succ k ih => exact ih.up
  have fin : Ret (J35_1 l b (m : Int) (false, out)) (StepQ (fun q : Int × List NodeT => ∃ m : Nat, q.1 = m ∧ m ≤ 14 ∧ Good q.2 m) (fun q => 14 - q.1.toNat) (fun o => Good o 14) ((m : Int), out)) := by
   simp only [J35_1, wp, Sum.elim_inl, Sum.elim_inr, ne_eq, ge_iff_le, gt_iff_lt, reduceCtorEq, forall_const, Bool.true_eq_false, Bool.false_eq_true, implies_true]
   have := up (14 - m)
   rwa [show m + (14 - m) = 14 by omega] at this
  simp only [L35_1, wp, Sum.elim_inl, Sum.elim_inr, ne_eq, ge_iff_le, gt_iff_lt, reduceCtorEq, forall_const, Bool.true_eq_false, Bool.false_eq_true, implies_true]
  refine ⟨fun hlt => ?_, fun _ => fin⟩
  by_cases h14 : m < 14
  ·have hw := wrap_succ m (by omega)
   rw [show decide ((m : Int) < 14) = true by simp; omega]
   simp only [J35_1, wp, Sum.elim_inl, Sum.elim_inr, ne_eq, ge_iff_le, gt_iff_lt, reduceCtorEq, forall_const, Bool.true_eq_false, Bool.false_eq_true, implies_true]
   refine ret_gI (by omega) hlt fun y hy _ => ?_
   simp only [ret_eq hy, wp, Sum.elim_inl, Sum.elim_inr, ne_eq, ge_iff_le, gt_iff_lt, reduceCtorEq, forall_const, Bool.true_eq_false, Bool.false_eq_true, implies_true]
   refine F15_ok (by omega) (by omega) fun r r0 r1 => ?_
   have J := fun b x n m' rd => J35_4_ok l m (by omega) h14 (Q := fun a => Ret (Sum.elim (J35_2 (m : Int)) some a) (StepQ (fun q : Int × List NodeT => ∃ m : Nat, q.1 = m ∧ m ≤ 14 ∧ Good q.2 m) (fun q => 14 - q.1.toNat) (fun o => Good o 14) ((m : Int), out))) hg (fun o ho => by
    simp only [J35_2, wp, Sum.elim_inl, Sum.elim_inr, ne_eq, ge_iff_le, gt_iff_lt, reduceCtorEq, forall_const, Bool.true_eq_false, Bool.false_eq_true, implies_true, hw]
    exact ⟨⟨m + 1, rfl, by omega, ho⟩, by omega⟩) b x n m' rd
   exact ⟨fun _ => F15_ok (by omega) (by omega) fun _ _ _ => J _ _ _ _ _, fun _ => J _ _ _ _ _⟩
  ·rw [show decide ((m : Int) < 14) = false by simp; omega]
   exact fin
 ·simp
 ·intro x hx
  simp at hx
  rcases hx with rfl | rfl | rfl <;> simp

/-- what the laws are tried on -/
structure RawQ (s : SatT) : Prop where
 n0 : 0 < s.1.length
 n1 : s.1.length ≤ 18
 nk : ∀ x ∈ s.1, x.2.2.length ≤ 4
 sl : s.2.1.length ≤ 16
 sv : ∀ x ∈ s.2.1, x.2.2.2.1.length ≤ 2 ∧ x.2.2.2.2 = []
 inv : s.2.2.1 = []
 va : 0 ≤ s.2.2.2.1 ∧ s.2.2.2.1 < s.1.length
 st : 0 ≤ s.2.2.2.2.1 ∧ s.2.2.2.2.1 < s.1.length
structure MutQ (o : List NodeT) : Prop where
 n0 : 0 < o.length
 n1 : o.length ≤ 18
 nk : ∀ x ∈ o, x.2.2.length ≤ 4
theorem setI_mem {α : Type} {l : List α} {i : Int} {x y : α} (h : y ∈ setI l i x) : y ∈ l ∨ y = x := by
 unfold setI at h; exact List.mem_or_eq_of_mem_set h
theorem F36_ok (l : List NodeT) (how at' : Int) (h0 : 0 < l.length) (h1 : l.length ≤ 17) (hk : ∀ x ∈ l, x.2.2.length ≤ 3) : Ret (F36 l how at') MutQ := by
 have J : ∀ (r : Int) (o : List NodeT) (a b : Int) (k : List Int), 0 ≤ r → r < o.length → o.length ≤ 18 → (∀ x ∈ o, x.2.2.length ≤ 4) → k.length ≤ 4 → Ret (J36_1 r (o, a, b, k)) MutQ := by
  intro r o a b k r0 r1 ol ok hk
  simp only [J36_1, wp, Sum.elim_inl, Sum.elim_inr, ne_eq, ge_iff_le, gt_iff_lt, reduceCtorEq, forall_const, Bool.true_eq_false, Bool.false_eq_true, implies_true]
  refine ret_gI r0 r1 fun y hy _ => ?_
  simp only [ret_eq hy]
  refine ⟨by rw [setI_len]; omega, by rw [setI_len]; omega, fun x hx => ?_⟩
  rcases setI_mem hx with hx | rfl
  ·exact ok x hx
  ·exact hk
 simp only [F36, List.nil_append, List.length_nil, wp, Sum.elim_inl, Sum.elim_inr, ne_eq, ge_iff_le, gt_iff_lt, reduceCtorEq, forall_const, Bool.true_eq_false, Bool.false_eq_true, implies_true]
 refine ⟨fun _ => ⟨fun h => by omega, fun _ => ?_⟩, fun h => by omega⟩
 refine F15_ok (by omega) (by omega) fun r r0 r1 => ret_gI r0 r1 fun y hy hm => ?_
 have hyk := hk y hm
 have hk4 : ∀ x ∈ l, x.2.2.length ≤ 4 := fun x hx => by have := hk x hx; omega
 have hw2 : IntKind.wrap .i64 ((l.length : Int) + 2) = (l.length : Int) + 2 := wrap_id (by omega) (by omega)
 simp only [ret_eq hy, wp, Sum.elim_inl, Sum.elim_inr, ne_eq, ge_iff_le, gt_iff_lt, reduceCtorEq, forall_const, Bool.true_eq_false, Bool.false_eq_true, implies_true, hw2]
 refine ⟨fun _ => ?_, fun h => by omega⟩
 refine F15_ok (by omega) (by omega) fun q q0 q1 => ⟨fun _ => ?_, fun _ => ⟨fun _ => ?_, fun _ => ⟨fun _ => ?_, fun _ => ⟨fun _ => ⟨fun _ => ?_, fun _ => ?_⟩, fun _ => ⟨fun _ => ⟨fun _ => ⟨fun _ => ?_, fun _ => ?_⟩, fun _ => ?_⟩, fun _ => ⟨fun _ => ⟨fun _ => ?_, fun _ => ?_⟩, fun _ => ⟨fun _ => ?_, fun _ => ?_⟩⟩⟩⟩⟩⟩⟩
 ·exact F15_ok (by omega) (by omega) fun _ _ _ => J _ _ _ _ _ r0 r1 (by omega) hk4 (by omega)
 ·exact F15_ok (by omega) (by omega) fun _ _ _ => J _ _ _ _ _ r0 r1 (by omega) hk4 (by omega)
 ·refine F15_ok (by omega) (by omega) fun _ _ _ => ⟨fun _ => J _ _ _ _ _ r0 r1 (by omega) hk4 (by simp; omega), fun h => absurd h (by simp only [List.length_cons, List.length_nil]; omega)⟩
 ·refine F15_ok (by omega) (by omega) fun p p0 p1 => F15_ok (by omega) (by omega) fun _ _ _ => ret_gI p0 p1 fun z hz _ => ?_
  simp only [ret_eq hz]
  exact J _ _ _ _ _ r0 r1 (by omega) hk4 (by rw [setI_len]; omega)
 ·exact J _ _ _ _ _ r0 r1 (by omega) hk4 (by omega)
 ·exact J _ _ _ _ _ r0 r1 (by omega) hk4 (by have := slI_le y.2.2 1 (y.2.2.length : Int); omega)
 ·omega
 ·exact J _ _ _ _ _ r0 r1 (by omega) hk4 (by omega)
 ·refine J _ _ _ _ _ r0 (by simp; omega) (by simp; omega) (fun x hx => ?_) (by omega)
  rcases List.mem_append.1 hx with hx | hx
  ·exact hk4 x hx
  ·rw [List.mem_singleton.1 hx]; show y.2.2.length ≤ 4; omega
 ·exact absurd ‹_› (by simp only [List.length_cons, List.length_nil]; omega)
 ·exact F15_ok (by omega) (by omega) fun _ _ _ => J _ _ _ _ _ r0 r1 (by omega) hk4 (by simp)
 ·exact J _ _ _ _ _ r0 r1 (by omega) hk4 (by omega)
end Go.Dat
/-
 RawSaturation as a plain function: the whole.
-/
namespace Go.Dat
open Go.Eng
set_option linter.unusedSimpArgs false
set_option linter.unusedVariables false

abbrev St13 := Int × Int × Int × Int × Int × (List NodeT) × Int × Int × Int × Int × List StepT
structure StepsQ (l : List StepT) (m : Nat) : Prop where
 len : l.length ≤ m
 sv : ∀ x ∈ l, x.2.2.2.1.length ≤ 2 ∧ x.2.2.2.2 = []
theorem StepsQ.push {l : List StepT} {m : Nat} (h : StepsQ l m) (x : StepT) (h1 : x.2.2.2.1.length ≤ 2) (h2 : x.2.2.2.2 = []) : StepsQ (l ++ [x]) (m + 1) := by
 refine ⟨by have := h.len; simp; omega, fun y hy => ?_⟩
 rcases List.mem_append.1 hy with hy | hy
 ·exact h.sv y hy
 ·rw [List.mem_singleton.1 hy]; exact ⟨h1, h2⟩
def I13 (s : List NodeT) (q : St13) : Prop := ∃ m : Nat, q.1 = m ∧ m ≤ 16 ∧ q.2.2.2.2.2.1 = s ∧ StepsQ q.2.2.2.2.2.2.2.2.2.2 m
theorem L13_1_ok (steps : List Int) (s : List NodeT) (hs : MutQ s) (q : St13) (h : I13 s q) : Ret (L13_1 steps s q) (StepQ (I13 s) (fun q => 16 - q.1.toNat) RawQ q) := by
 obtain ⟨i', a1, a2, a3, a4, s', b1, b2, b3, b4, l⟩ := q
 obtain ⟨m, e1, hm, e2, hl⟩ := h
 dsimp only at e1 e2 hl
 subst e1 e2
 obtain ⟨n0, n1, nk⟩ := hs
 have fin : Ret (J13_2 steps s' (m : Int) (false, a1, a2, a3, a4, s', b1, b2, b3, b4, l)) (StepQ (I13 s') (fun q => 16 - q.1.toNat) RawQ ((m : Int), a1, a2, a3, a4, s', b1, b2, b3, b4, l)) := by
  simp only [J13_2, wp, Sum.elim_inl, Sum.elim_inr, ne_eq, ge_iff_le, gt_iff_lt, reduceCtorEq, forall_const, Bool.true_eq_false, Bool.false_eq_true, implies_true]
  refine Ret.mono (F38_ok s' 1 (by omega) n0) fun v _ hv => Ret.mono (F38_ok s' 2 (by omega) n0) fun w _ hw => ?_
  exact ⟨n0, n1, nk, by have := hl.len; show l.length ≤ 16; omega, hl.sv, rfl, hv, hw⟩
 have hw1 : IntKind.wrap .i64 ((s'.length : Int) + 1) = (s'.length : Int) + 1 := wrap_id (by omega) (by omega)
 have hw2 : IntKind.wrap .i64 ((s'.length : Int) + 2) = (s'.length : Int) + 2 := wrap_id (by omega) (by omega)
 have hw := wrap_succ m (by omega)
 simp only [L13_1, wp, Sum.elim_inl, Sum.elim_inr, ne_eq, ge_iff_le, gt_iff_lt, reduceCtorEq, forall_const, Bool.true_eq_false, Bool.false_eq_true, implies_true]
 refine ⟨fun hlt => ?_, fun _ => fin⟩
 by_cases h16 : m < 16
 ·rw [show decide ((m : Int) < 16) = true by simp; omega]
  have J : ∀ (c1 c2 c3 c4 : Int) (d1 d2 d3 d4 dd x y z : Int), Ret (J13_3 s' (m : Int) (c1, c2, c3, c4, s', d1, d2, d3, dd, d4, x, y, z, l)) (StepQ (I13 s') (fun q => 16 - q.1.toNat) RawQ ((m : Int), a1, a2, a3, a4, s', b1, b2, b3, b4, l)) := by
   intro c1 c2 c3 c4 d1 d2 d3 d4 dd x y z
   simp only [J13_3, wp, Sum.elim_inl, Sum.elim_inr, ne_eq, ge_iff_le, gt_iff_lt, reduceCtorEq, forall_const, Bool.true_eq_false, Bool.false_eq_true, implies_true]
   refine F37_ok (by omega) (by omega) fun r d' r0 r1 => ?_
   refine ret_loop (fun q : Int × Int × Int × Int × Int × (List NodeT) × Int × Int × Int × Int × Int × Int × Int × Int × (List StepT) × List Int => ∃ k : Nat, q.1 = k ∧ q.2.2.2.2.2.1 = s' ∧ q.2.2.2.2.2.2.2.2.2.2.2.2.2.2.1 = l ∧ q.2.2.2.2.2.2.2.2.2.2.2.2.2.2.2.length + k ≤ 2) (fun q => q.1.toNat) ?_ _ ⟨r.toNat, by show r = _; omega, rfl, rfl, by show ([] : List Int).length + _ ≤ 2; simp only [List.length_nil]; omega⟩
   rintro ⟨k', c1, c2, c3, c4, s2, d1, d2, d3, d4, dd, x, y, z, l', vs⟩ ⟨k, e1, e2, e3, e4⟩
   dsimp only at e1 e2 e3 e4
   subst e1 e2 e3
   have hll := hl.len
   simp only [L13_2, wp, Sum.elim_inl, Sum.elim_inr, ne_eq, ge_iff_le, gt_iff_lt, reduceCtorEq, forall_const, Bool.true_eq_false, Bool.false_eq_true, implies_true, hw2]
   refine ⟨fun hk => F37_ok (by omega) (by omega) fun r d' r0 r1 => ⟨fun _ => ?_, fun h => absurd h (by simp only [List.length_cons, List.length_nil]; omega)⟩, fun hk => ⟨fun _ => ?_, fun h => absurd h (by simp only [List.length_cons, List.length_nil]; omega)⟩⟩
   ·rw [wrap_id (n := (k : Int) - 1) (by omega) (by omega)]
    exact ⟨⟨k - 1, by omega, by simp; omega⟩, by omega⟩
   ·rw [hw]
    refine ⟨⟨m + 1, rfl, by omega, rfl, hl.push _ (by show vs.length ≤ 2; omega) rfl⟩, by show 16 - (((m + 1 : Nat) : Int)).toNat < 16 - ((m : Int)).toNat; omega⟩
  simp only [J13_2, wp, Sum.elim_inl, Sum.elim_inr, ne_eq, ge_iff_le, gt_iff_lt, reduceCtorEq, forall_const, Bool.true_eq_false, Bool.false_eq_true, implies_true, hw1]
  refine ret_gI (by omega) hlt fun y hy _ => F37_ok (by omega) (by omega) fun r d' r0 r1 => ret_gI r0 (by simp only [List.length_cons, List.length_nil]; omega) fun z hz _ => ?_
  simp only [ret_eq hz]
  refine F37_ok (by omega) (by omega) fun p d'' p0 p1 => F37_ok (by omega) (by omega) fun q d3 q0 q1 => ⟨fun _ => F37_ok (by omega) (by omega) fun t d4 t0 t1 => J _ _ _ _ _ _ _ _ _ _ _ _, fun _ => J _ _ _ _ _ _ _ _ _ _ _ _⟩
 ·rw [show decide ((m : Int) < 16) = false by simp; omega]
  exact fin
theorem J13_1_ok (steps : List Int) (c1 c2 c3 c4 d1 d2 d3 d4 : Int) (s : List NodeT) (hs : MutQ s) : Ret (J13_1 steps (c1, c2, c3, c4, s, d1, d2, d3, d4)) RawQ := by
 simp only [J13_1]
 exact ret_loop (I13 s) (fun q => 16 - q.1.toNat) (L13_1_ok steps s hs) _ ⟨0, rfl, by omega, rfl, by simp, fun x hx => by cases hx⟩
theorem F13_ok (l steps : List Int) (how at' : Int) : Ret (F13 l steps how at') RawQ := by
 simp only [F13, wp, Sum.elim_inl, Sum.elim_inr, ne_eq, ge_iff_le, gt_iff_lt, reduceCtorEq, forall_const, Bool.true_eq_false, Bool.false_eq_true, implies_true]
 refine Ret.mono (F35_ok l false) fun o _ ho => ?_
 have ol := ho.len
 have l2 : 2 < o.length := (List.getElem?_eq_some_iff.1 ho.h2).1
 refine F15_ok (by omega) (by omega) fun r r0 r1 => ⟨fun _ => ?_, fun _ => ?_⟩
 ·exact Ret.mono (F36_ok o _ at' (by omega) (by omega) ho.k) fun o' _ ho' => J13_1_ok _ _ _ _ _ _ _ _ _ _ ho'
 ·exact J13_1_ok _ _ _ _ _ _ _ _ _ _ ⟨by omega, by omega, fun x hx => by have := ho.k x hx; omega⟩
end Go.Dat
