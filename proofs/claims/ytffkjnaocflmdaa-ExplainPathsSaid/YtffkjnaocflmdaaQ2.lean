/-
  The reference's paths.
-/
import Derived.Test.YtffkjnaocflmdaaQ1
namespace Go.Dat
open Go.Eng
set_option linter.unusedSimpArgs false
set_option linter.unusedVariables false

def rowOf (n : Nat) (x : StepT) (k : Nat) (a : Nat) : List (Int × Int) := if inR n x.1 ∧ inR n x.2.1 then (if x.1 = (a : Int) then [(x.2.1, (k : Int))] else []) ++ (if x.2.1 = (a : Int) then [(x.1, (k : Int))] else []) else []
theorem addE_row (adj : Adj) (i : Int) (h0 : 0 ≤ i) (e : Int × Int) (a : Nat) (ha : a < adj.length) : (addE adj i e)[a]?.getD [] = adj[a]?.getD [] ++ (if i = (a : Int) then [e] else []) := by
  unfold addE
  by_cases h : i = (a : Int)
  · subst h
    rw [if_pos rfl, Int.toNat_natCast, List.getElem?_set_self ha]; rfl
  · rw [if_neg h, List.getElem?_set_ne (by omega), List.append_nil]
theorem stepE_row (n : Nat) (adj : Adj) (hn : adj.length = n) (k : Nat) (x : StepT) (a : Nat) (ha : a < n) : (stepE n adj k x)[a]?.getD [] = adj[a]?.getD [] ++ rowOf n x k a := by
  unfold stepE rowOf
  split
  · rename_i h
    rw [addE_row _ _ h.2.1 _ _ (by rw [addE_len]; omega), addE_row _ _ h.1.1 _ _ (by omega), List.append_assoc]
  · rw [List.append_nil]
theorem edges_at (n : Nat) (l : List StepT) (k : Nat) (x : StepT) (hx : l[k]? = some x) (a : Nat) (ha : a < n) : (edgesM n l (k + 1))[a]?.getD [] = (edgesM n l k)[a]?.getD [] ++ rowOf n x k a := by
  rw [edgesM_at hx, stepE_row n _ (edgesM_len _ _ _) _ _ _ ha]
theorem edges_pre (n : Nat) (l : List StepT) (a : Nat) (ha : a < n) (t : Nat) : ∀ m, t + m ≤ l.length → ∃ suf, (edgesM n l (t + m))[a]?.getD [] = (edgesM n l t)[a]?.getD [] ++ suf
  | 0, _ => ⟨[], by simp⟩
  | m + 1, h => by
    obtain ⟨suf, e⟩ := edges_pre n l a ha t m (by omega)
    have hx : l[t + m]? = some (l[t + m]'(by omega)) := List.getElem?_eq_getElem _
    refine ⟨suf ++ rowOf n (l[t + m]'(by omega)) (t + m) a, ?_⟩
    rw [← Nat.add_assoc, edges_at n l (t + m) _ hx a ha, e, List.append_assoc]
theorem find_pre {α : Type} {p : α → Bool} {l suf : List α} {x : α} (h : l.find? p = some x) : (l ++ suf).find? p = some x := by
  rw [List.find?_append, h]; rfl
theorem find_add {α : Type} {p : α → Bool} {l m : List α} (h : l.find? p = none) : (l ++ m).find? p = m.find? p := by
  rw [List.find?_append, h]; rfl

section
variable {s : SatT} {below : Int} {D : List Int} {a b : Nat}
theorem loop14_2 (hs : s.2.1.length ≤ 400000) (hn : s.1.length ≤ 100000) (hD : Dist (grM s below) b D) {c d : Nat} (hc : D[c]? = some ((d + 1 : Nat) : Int)) (out : List Int) (hout : out.length ≤ 100000)
    {Q : (Int × List Int) ⊕ (List Int × Bool) → Prop} (hQ : ∀ (j : Nat) (t : Int), ((grM s below)[c]?.getD []).find? (fun e => atD D e.1 == (d : Int)) = some ((j : Int), t) → D[j]? = some (d : Int) → Q (.inl ((j : Int), out ++ [t]))) :
    Ret (loopL (L14_2 s D) ((c : Int), 0, out)) Q := by
  have u : Und (grM s below) := edges_und _ _ _
  have hgl : (grM s below).length = s.1.length := edgesM_len _ _ _
  have hcl : c < s.1.length := by rw [← hgl, ← hD.len]; exact (List.getElem?_eq_some_iff.1 hc).1
  have hdb := hD.lo c _ hc
  refine ret_loop (fun q : Int × Int × List Int => q.1 = (c : Int) ∧ q.2.2 = out ∧ ∃ t : Nat, q.2.1 = t ∧ t ≤ min s.2.1.length below.toNat ∧ ((edgesM s.1.length s.2.1 t)[c]?.getD []).find? (fun e => atD D e.1 == (d : Int)) = none) (fun q => s.2.1.length - q.2.1.toNat) ?_ _ ⟨rfl, rfl, 0, rfl, by omega, by rw [edgesM, List.getElem?_replicate]; split <;> rfl⟩
  rintro ⟨c', t', out'⟩ ⟨e1, e2, t, e3, ht, hno⟩
  dsimp only at e1 e2 e3 hno
  subst e1 e2 e3
  have hlt : t < min s.2.1.length below.toNat := by
    refine Nat.lt_of_le_of_ne ht fun he => ?_
    obtain ⟨j, q, h1, h2⟩ := hD.step u hc
    rw [he] at hno
    rw [List.find?_eq_none] at hno
    exact hno _ h1 (by simpa using atD_of h2)
  have htl : t < s.2.1.length := by omega
  have hx : s.2.1[t]? = some s.2.1[t] := List.getElem?_eq_getElem htl
  have hg : gI s.2.1 (t : Int) = some s.2.1[t] := by rw [gI_nat, hx]
  generalize s.2.1[t] = x at hx hg
  have hrow := edges_at s.1.length s.2.1 t x hx c hcl
  have hw := wrap_succ t (by omega)
  have hwd : IntKind.wrap .i64 (((d + 1 : Nat) : Int) - 1) = (d : Int) := by rw [wrap_id (by omega) (by omega)]; omega
  -- a hit in this row is the hit of the whole
  have hit : ∀ e : Int × Int, (rowOf s.1.length x t c).find? (fun e => atD D e.1 == (d : Int)) = some e → ((grM s below)[c]?.getD []).find? (fun e => atD D e.1 == (d : Int)) = some e := by
    intro e he
    obtain ⟨suf, hsuf⟩ := edges_pre s.1.length s.2.1 c hcl (t + 1) (min s.2.1.length below.toNat - (t + 1)) (by omega)
    rw [show t + 1 + (min s.2.1.length below.toNat - (t + 1)) = min s.2.1.length below.toNat by omega] at hsuf
    rw [grM, hsuf]
    refine find_pre ?_
    rw [hrow, find_add hno]; exact he
  have miss : (rowOf s.1.length x t c).find? (fun e => atD D e.1 == (d : Int)) = none → ((edgesM s.1.length s.2.1 (t + 1))[c]?.getD []).find? (fun e => atD D e.1 == (d : Int)) = none := by
    intro he
    rw [hrow, find_add hno]; exact he
  have next : (rowOf s.1.length x t c).find? (fun e => atD D e.1 == (d : Int)) = none → (∃ t_1 : Nat, ((t + 1 : Nat) : Int) = (t_1 : Int) ∧ t_1 ≤ min s.2.1.length below.toNat ∧ ((edgesM s.1.length s.2.1 t_1)[c]?.getD []).find? (fun e => atD D e.1 == (d : Int)) = none) ∧ s.2.1.length - (((t + 1 : Nat) : Int)).toNat < s.2.1.length - ((t : Int)).toNat := fun he => ⟨⟨t + 1, rfl, by omega, miss he⟩, by omega⟩
  simp only [L14_2, ret_some, ret_none, ret_bind, ret_map, ret_bif, Sum.elim_inl, Sum.elim_inr, decide_eq_true_eq, decide_eq_false_iff_not, stepQ_inl, stepQ_inr, Bool.not_eq_true', Bool.not_eq_false', beq_iff_eq, bne_iff_ne, ne_eq, beq_eq_false_iff_ne, bne_eq_false_iff_eq, ge_iff_le, gt_iff_lt, Int.not_le, Int.not_lt, reduceCtorEq, false_implies, true_implies, forall_const, and_true, true_and, Bool.true_eq_false, Bool.false_eq_true, implies_true, not_true_eq_false, not_false_eq_true, decide_true, decide_false, Bool.not_true, Bool.not_false]
  refine ⟨fun _ => ?_, fun h => absurd htl (by omega)⟩
  simp only [ret_eq hg, F41_eq, ret_some, ret_none, ret_bind, ret_map, ret_bif, Sum.elim_inl, Sum.elim_inr, decide_eq_true_eq, decide_eq_false_iff_not, stepQ_inl, stepQ_inr, Bool.not_eq_true', Bool.not_eq_false', beq_iff_eq, bne_iff_ne, ne_eq, beq_eq_false_iff_ne, bne_eq_false_iff_eq, ge_iff_le, gt_iff_lt, Int.not_le, Int.not_lt, reduceCtorEq, false_implies, true_implies, forall_const, and_true, true_and, Bool.true_eq_false, Bool.false_eq_true, implies_true, not_true_eq_false, not_false_eq_true, decide_true, decide_false, Bool.not_true, Bool.not_false]
  refine ⟨fun hbad => ?_, fun hin => ?_⟩
  · simp only [J14_2, ret_some, ret_none, ret_bind, ret_map, ret_bif, Sum.elim_inl, Sum.elim_inr, decide_eq_true_eq, decide_eq_false_iff_not, stepQ_inl, stepQ_inr, Bool.not_eq_true', Bool.not_eq_false', beq_iff_eq, bne_iff_ne, ne_eq, beq_eq_false_iff_ne, bne_eq_false_iff_eq, ge_iff_le, gt_iff_lt, Int.not_le, Int.not_lt, reduceCtorEq, false_implies, true_implies, forall_const, and_true, true_and, Bool.true_eq_false, Bool.false_eq_true, implies_true, not_true_eq_false, not_false_eq_true, decide_true, decide_false, Bool.not_true, Bool.not_false, hw]
    exact next (by rw [rowOf, if_neg hbad]; rfl)
  · obtain ⟨hL, hR⟩ := hin
    obtain ⟨L, hLe⟩ : ∃ L : Nat, x.1 = (L : Int) := ⟨x.1.toNat, by have := hL.1; omega⟩
    obtain ⟨R, hRe⟩ : ∃ R : Nat, x.2.1 = (R : Int) := ⟨x.2.1.toNat, by have := hR.1; omega⟩
    have hLl : L < D.length := by rw [hD.len, hgl]; have := hL.2; omega
    have hRl : R < D.length := by rw [hD.len, hgl]; have := hR.2; omega
    have hLD : D[L]? = some D[L] := List.getElem?_eq_getElem hLl
    have hRD : D[R]? = some D[R] := List.getElem?_eq_getElem hRl
    generalize D[L] = vL at hLD
    generalize D[R] = vR at hRD
    have row : rowOf s.1.length x t c = (if L = c then [((R : Int), (t : Int))] else []) ++ (if R = c then [((L : Int), (t : Int))] else []) := by
      rw [rowOf, if_pos ⟨hL, hR⟩, hLe, hRe]
      have e1 : ((L : Int) = (c : Int)) = (L = c) := propext ⟨fun h => by omega, fun h => by omega⟩
      have e2 : ((R : Int) = (c : Int)) = (R = c) := propext ⟨fun h => by omega, fun h => by omega⟩
      simp only [e1, e2]
    -- the second test
    have second : (L = c → vR ≠ (d : Int)) → Ret (J14_3 D (c : Int) (t : Int) x (false, out')) (fun a => Ret (Sum.elim (J14_2 (t : Int)) some a) (StepQ (fun q : Int × Int × List Int => q.1 = (c : Int) ∧ q.2.2 = out' ∧ ∃ t : Nat, q.2.1 = t ∧ t ≤ min s.2.1.length below.toNat ∧ ((edgesM s.1.length s.2.1 t)[c]?.getD []).find? (fun e => atD D e.1 == (d : Int)) = none) (fun q => s.2.1.length - q.2.1.toNat) Q ((c : Int), (t : Int), out'))) := by
      intro hfirst
      have h1 : ((if L = c then [((R : Int), (t : Int))] else []) : List (Int × Int)).find? (fun e => atD D e.1 == (d : Int)) = none := by
        split
        · rename_i hLc
          have := hfirst hLc
          simp [atD_of hRD, this]
        · rfl
      simp only [J14_3, ret_some, ret_none, ret_bind, ret_map, ret_bif, Sum.elim_inl, Sum.elim_inr, decide_eq_true_eq, decide_eq_false_iff_not, stepQ_inl, stepQ_inr, Bool.not_eq_true', Bool.not_eq_false', beq_iff_eq, bne_iff_ne, ne_eq, beq_eq_false_iff_ne, bne_eq_false_iff_eq, ge_iff_le, gt_iff_lt, Int.not_le, Int.not_lt, reduceCtorEq, false_implies, true_implies, forall_const, and_true, true_and, Bool.true_eq_false, Bool.false_eq_true, implies_true, not_true_eq_false, not_false_eq_true, decide_true, decide_false, Bool.not_true, Bool.not_false, hRe, hLe]
      refine ⟨fun hRc => ?_, fun hRc => ?_⟩
      · have hRc' : R = c := by omega
        simp only [ret_eq (gI_D hLD), ret_eq (gI_D hc), hwd]
        by_cases hv : vL = (d : Int)
        · simp only [J14_4, hv, ret_some, ret_none, ret_bind, ret_map, ret_bif, Sum.elim_inl, Sum.elim_inr, decide_eq_true_eq, decide_eq_false_iff_not, stepQ_inl, stepQ_inr, Bool.not_eq_true', Bool.not_eq_false', beq_iff_eq, bne_iff_ne, ne_eq, beq_eq_false_iff_ne, bne_eq_false_iff_eq, ge_iff_le, gt_iff_lt, Int.not_le, Int.not_lt, reduceCtorEq, false_implies, true_implies, forall_const, and_true, true_and, Bool.true_eq_false, Bool.false_eq_true, implies_true, not_true_eq_false, not_false_eq_true, decide_true, decide_false, Bool.not_true, Bool.not_false, beq_self_eq_true, hLe]
          refine ⟨fun _ => hQ L _ (hit _ ?_) (by rw [hLD, hv]), fun h => absurd h (by simp only [List.length_cons, List.length_nil]; omega)⟩
          rw [row, find_add h1, if_pos hRc']
          simp [atD_of hLD, hv]
        · have : (vL == (d : Int)) = false := by simp [hv]
          simp only [J14_4, this, J14_2, ret_some, ret_none, ret_bind, ret_map, ret_bif, Sum.elim_inl, Sum.elim_inr, decide_eq_true_eq, decide_eq_false_iff_not, stepQ_inl, stepQ_inr, Bool.not_eq_true', Bool.not_eq_false', beq_iff_eq, bne_iff_ne, ne_eq, beq_eq_false_iff_ne, bne_eq_false_iff_eq, ge_iff_le, gt_iff_lt, Int.not_le, Int.not_lt, reduceCtorEq, false_implies, true_implies, forall_const, and_true, true_and, Bool.true_eq_false, Bool.false_eq_true, implies_true, not_true_eq_false, not_false_eq_true, decide_true, decide_false, Bool.not_true, Bool.not_false, hw]
          refine next ?_
          rw [row, find_add h1, if_pos hRc']
          simp [atD_of hLD, hv]
      · simp only [J14_4, J14_2, ret_some, ret_none, ret_bind, ret_map, ret_bif, Sum.elim_inl, Sum.elim_inr, decide_eq_true_eq, decide_eq_false_iff_not, stepQ_inl, stepQ_inr, Bool.not_eq_true', Bool.not_eq_false', beq_iff_eq, bne_iff_ne, ne_eq, beq_eq_false_iff_ne, bne_eq_false_iff_eq, ge_iff_le, gt_iff_lt, Int.not_le, Int.not_lt, reduceCtorEq, false_implies, true_implies, forall_const, and_true, true_and, Bool.true_eq_false, Bool.false_eq_true, implies_true, not_true_eq_false, not_false_eq_true, decide_true, decide_false, Bool.not_true, Bool.not_false, hw]
        refine next ?_
        rw [row, find_add h1, if_neg (by omega)]
        rfl
    simp only [hLe, hRe]
    refine ⟨fun hLc => ?_, fun hLc => second (fun h => by omega)⟩
    have hLc' : L = c := by omega
    simp only [ret_eq (gI_D hRD), ret_eq (gI_D hc), hwd]
    by_cases hv : vR = (d : Int)
    · simp only [J14_3, hv, ret_some, ret_none, ret_bind, ret_map, ret_bif, Sum.elim_inl, Sum.elim_inr, decide_eq_true_eq, decide_eq_false_iff_not, stepQ_inl, stepQ_inr, Bool.not_eq_true', Bool.not_eq_false', beq_iff_eq, bne_iff_ne, ne_eq, beq_eq_false_iff_ne, bne_eq_false_iff_eq, ge_iff_le, gt_iff_lt, Int.not_le, Int.not_lt, reduceCtorEq, false_implies, true_implies, forall_const, and_true, true_and, Bool.true_eq_false, Bool.false_eq_true, implies_true, not_true_eq_false, not_false_eq_true, decide_true, decide_false, Bool.not_true, Bool.not_false, beq_self_eq_true, hRe]
      refine ⟨fun _ => hQ R _ (hit _ ?_) (by rw [hRD, hv]), fun h => absurd h (by simp only [List.length_cons, List.length_nil]; omega)⟩
      rw [row, if_pos hLc']
      refine find_pre ?_
      simp [atD_of hRD, hv]
    · have : (vR == (d : Int)) = false := by simp [hv]
      rw [this]
      exact second (fun _ => hv)
theorem F14_ok (s : SatT) (a b below : Int) (hs : s.2.1.length ≤ 400000) (hn : s.1.length ≤ 100000) : Ret (F14 s a b below) fun r => PathSays s a b below r.1 r.2 := by
  simp only [F14, F39_eq, ret_some, ret_none, ret_bind, ret_map, ret_bif, Sum.elim_inl, Sum.elim_inr, decide_eq_true_eq, decide_eq_false_iff_not, stepQ_inl, stepQ_inr, Bool.not_eq_true', Bool.not_eq_false', beq_iff_eq, bne_iff_ne, ne_eq, beq_eq_false_iff_ne, bne_eq_false_iff_eq, ge_iff_le, gt_iff_lt, Int.not_le, Int.not_lt, reduceCtorEq, false_implies, true_implies, forall_const, and_true, true_and, Bool.true_eq_false, Bool.false_eq_true, implies_true, not_true_eq_false, not_false_eq_true, decide_true, decide_false, Bool.not_true, Bool.not_false]
  by_cases ha : inR s.1.length a
  · by_cases hb : inR s.1.length b
    · simp only [ha, hb, ret_some, ret_none, ret_bind, ret_map, ret_bif, Sum.elim_inl, Sum.elim_inr, decide_eq_true_eq, decide_eq_false_iff_not, stepQ_inl, stepQ_inr, Bool.not_eq_true', Bool.not_eq_false', beq_iff_eq, bne_iff_ne, ne_eq, beq_eq_false_iff_ne, bne_eq_false_iff_eq, ge_iff_le, gt_iff_lt, Int.not_le, Int.not_lt, reduceCtorEq, false_implies, true_implies, forall_const, and_true, true_and, Bool.true_eq_false, Bool.false_eq_true, implies_true, not_true_eq_false, not_false_eq_true, decide_true, decide_false, Bool.not_true, Bool.not_false, J14_1]
      obtain ⟨a, rfl⟩ : ∃ i : Nat, a = (i : Int) := ⟨a.toNat, by have := ha.1; omega⟩
      obtain ⟨b, rfl⟩ : ∃ j : Nat, b = (j : Int) := ⟨b.toNat, by have := hb.1; omega⟩
      have hgl : (grM s below).length = s.1.length := edgesM_len _ _ _
      refine Ret.mono (F40_ok hs hn (by have := hb.2; omega)) fun D _ hD => ?_
      have haD : a < D.length := by rw [hD.len]; have := ha.2; omega
      have hDa : D[a]? = some D[a] := List.getElem?_eq_getElem haD
      have hlo := hD.lo a _ hDa
      simp only [ret_eq (gI_D hDa)]
      refine ⟨fun hneg => .inr ⟨ha, hb, D, hD, by rw [shortM, atD_of hDa, if_pos hneg]⟩, fun hpos => ?_⟩
      obtain ⟨da, hda⟩ : ∃ da : Nat, D[a] = (da : Int) := ⟨D[a].toNat, by omega⟩
      rw [hda] at hDa
      have key : Ret (loopL (L14_1 s (b : Int) D) ((a : Int), [])) fun r => r = (pathM (grM s below) D da (a : Int), true) := by
        refine ret_loop (fun q : Int × List Int => ∃ c d : Nat, q.1 = (c : Int) ∧ D[c]? = some (d : Int) ∧ q.2 ++ pathM (grM s below) D d (c : Int) = pathM (grM s below) D da (a : Int) ∧ q.2.length + d = da) (fun q => (atD D q.1).toNat) ?_ _ ⟨a, da, rfl, hDa, rfl, by simp⟩
        rintro ⟨c', out⟩ ⟨c, d, e1, hc, hp, hl⟩
        dsimp only at e1 hp hl
        subst e1
        simp only [L14_1, ret_some, ret_none, ret_bind, ret_map, ret_bif, Sum.elim_inl, Sum.elim_inr, decide_eq_true_eq, decide_eq_false_iff_not, stepQ_inl, stepQ_inr, Bool.not_eq_true', Bool.not_eq_false', beq_iff_eq, bne_iff_ne, ne_eq, beq_eq_false_iff_ne, bne_eq_false_iff_eq, ge_iff_le, gt_iff_lt, Int.not_le, Int.not_lt, reduceCtorEq, false_implies, true_implies, forall_const, and_true, true_and, Bool.true_eq_false, Bool.false_eq_true, implies_true, not_true_eq_false, not_false_eq_true, decide_true, decide_false, Bool.not_true, Bool.not_false]
        refine ⟨fun hne => ?_, fun he => ?_⟩
        · obtain ⟨d, rfl⟩ : ∃ e, d = e + 1 := by
            cases d with
            | zero => exact absurd (hD.zero hc) (by omega)
            | succ e => exact ⟨e, rfl⟩
          refine loop14_2 hs hn hD hc out (by omega) fun j t hf hj => ⟨⟨j, d, rfl, hj, ?_, by simp only [List.length_append, List.length_cons, List.length_nil]; omega⟩, ?_⟩
          · rw [← hp]
            have e : atD D (c : Int) - 1 = (d : Int) := by rw [atD_of hc]; omega
            have : pathM (grM s below) D (d + 1) (c : Int) = t :: pathM (grM s below) D d (j : Int) := by
              rw [pathM, e, Int.toNat_natCast, hf]
            rw [this, List.append_assoc]; rfl
          · dsimp only
            rw [atD_of hj, atD_of hc]; omega
        · have : c = b := by omega
          subst this
          have := hD.b0
          rw [hc] at this
          have hd0 : d = 0 := by have := Option.some.inj this; omega
          subst hd0
          simp only [pathM, List.append_nil] at hp
          rw [hp]
      refine Ret.mono key fun r _ hr => .inr ⟨ha, hb, D, hD, ?_⟩
      rw [shortM, atD_of hDa, if_neg (by omega), hr]; rfl
    · simp only [ha, hb, ret_some, ret_none, ret_bind, ret_map, ret_bif, Sum.elim_inl, Sum.elim_inr, decide_eq_true_eq, decide_eq_false_iff_not, stepQ_inl, stepQ_inr, Bool.not_eq_true', Bool.not_eq_false', beq_iff_eq, bne_iff_ne, ne_eq, beq_eq_false_iff_ne, bne_eq_false_iff_eq, ge_iff_le, gt_iff_lt, Int.not_le, Int.not_lt, reduceCtorEq, false_implies, true_implies, forall_const, and_true, true_and, Bool.true_eq_false, Bool.false_eq_true, implies_true, not_true_eq_false, not_false_eq_true, decide_true, decide_false, Bool.not_true, Bool.not_false, J14_1]
      exact .inl ⟨fun h => hb h.2, rfl, rfl⟩
  · simp only [ha, ret_some, ret_none, ret_bind, ret_map, ret_bif, Sum.elim_inl, Sum.elim_inr, decide_eq_true_eq, decide_eq_false_iff_not, stepQ_inl, stepQ_inr, Bool.not_eq_true', Bool.not_eq_false', beq_iff_eq, bne_iff_ne, ne_eq, beq_eq_false_iff_ne, bne_eq_false_iff_eq, ge_iff_le, gt_iff_lt, Int.not_le, Int.not_lt, reduceCtorEq, false_implies, true_implies, forall_const, and_true, true_and, Bool.true_eq_false, Bool.false_eq_true, implies_true, not_true_eq_false, not_false_eq_true, decide_true, decide_false, Bool.not_true, Bool.not_false, J14_1]
    exact .inl ⟨fun h => ha h.1, rfl, rfl⟩
/-- the path, as a function -/
noncomputable def pth (s : SatT) (a b below : Int) : List Int × Bool := (F8 s a b below).getD ([], false)
theorem pth_of {s : SatT} {a b below : Int} {r : List Int} {k : Bool} (hs : s.2.1.length ≤ 400000) (hn : s.1.length ≤ 100000) (h : PathSays s a b below r k) : pth s a b below = (r, k) := by
  obtain ⟨q, e, hq⟩ := F8_ok s a b below hs hn
  obtain ⟨h1, h2⟩ := hq.uniq h
  unfold pth
  rw [e, ← h1, ← h2]; rfl
theorem F8_eq (s : SatT) (a b below : Int) (hs : s.2.1.length ≤ 400000) (hn : s.1.length ≤ 100000) : F8 s a b below = some (pth s a b below) := by
  obtain ⟨q, e, hq⟩ := F8_ok s a b below hs hn
  rw [e, pth_of hs hn hq]
theorem F14_eq (s : SatT) (a b below : Int) (hs : s.2.1.length ≤ 400000) (hn : s.1.length ≤ 100000) : F14 s a b below = some (pth s a b below) := by
  obtain ⟨q, e, hq⟩ := F14_ok s a b below hs hn
  rw [e, pth_of hs hn hq]
theorem pth_says (s : SatT) (a b below : Int) (hs : s.2.1.length ≤ 400000) (hn : s.1.length ≤ 100000) : PathSays s a b below (pth s a b below).1 (pth s a b below).2 := by
  obtain ⟨q, e, hq⟩ := F8_ok s a b below hs hn
  rw [pth_of hs hn hq]; exact hq
end
end Go.Dat
