/-
 Shortest paths in the graph of the steps, without a program.
-/
import Derived.Test.YtffkjnaocflmdaaPl
namespace Go.Dat
open Go.Eng
set_option linter.unusedSimpArgs false
abbrev NodeT := Int × Int × List Int
abbrev StepT := Int × Int × Int × List Int × List Int
abbrev SatT := List NodeT × List StepT × List (Int × Int × Int) × Int × Int × Int × Int
/-! the adjacency lists -/
abbrev Adj := List (List (Int × Int))
def inR (n : Nat) (i : Int) : Prop := 0 ≤ i ∧ i < n
instance (n : Nat) (i : Int) : Decidable (inR n i) := by unfold inR; infer_instance
noncomputable def addE (adj : Adj) (i : Int) (e : Int × Int) : Adj := adj.set i.toNat (adj[i.toNat]?.getD [] ++ [e])
noncomputable def stepE (n : Nat) (adj : Adj) (k : Nat) (x : StepT) : Adj := if inR n x.1 ∧ inR n x.2.1 then addE (addE adj x.1 (x.2.1, (k : Int))) x.2.1 (x.1, (k : Int)) else adj
noncomputable def edgesM (n : Nat) (l : List StepT) : Nat → Adj
 | 0 => List.replicate n []
 | k + 1 => match l[k]? with
  | some x => stepE n (edgesM n l k) k x
  | none => edgesM n l k
theorem addE_len (adj : Adj) (i : Int) (e : Int × Int) : (addE adj i e).length = adj.length := by simp [addE]
theorem stepE_len (n : Nat) (adj : Adj) (k : Nat) (x : StepT) : (stepE n adj k x).length = adj.length := by
 unfold stepE; split <;> simp [addE_len]
theorem edgesM_len (n : Nat) (l : List StepT) : ∀ k, (edgesM n l k).length = n
 | 0 => by simp [edgesM]
 | k + 1 => by
  unfold edgesM; split
  ·rw [stepE_len, edgesM_len]
  ·exact edgesM_len n l k
def RowLe (adj : Adj) (m : Nat) : Prop := ∀ row ∈ adj, row.length ≤ m
theorem addE_le {adj : Adj} {m : Nat} (h : RowLe adj m) (i : Int) (e : Int × Int) : RowLe (addE adj i e) (m + 1) := by
 intro row hr
 rcases List.mem_or_eq_of_mem_set hr with hr | rfl
 ·have := h _ hr; omega
 ·simp only [List.length_append, List.length_cons, List.length_nil]
  cases e : adj[i.toNat]? with
  | none => simp
  | some r => have := h r (List.mem_of_getElem? e); simp; omega
theorem stepE_le {adj : Adj} {m n k : Nat} {x : StepT} (h : RowLe adj m) : RowLe (stepE n adj k x) (m + 2) := by
 unfold stepE; split
 ·exact addE_le (addE_le h _ _) _ _
 ·intro j hj; have := h j hj; omega
theorem edgesM_le (n : Nat) (l : List StepT) : ∀ k, RowLe (edgesM n l k) (2 * k)
 | 0 => by intro j hj; simp [edgesM] at hj; simp [hj.2]
 | k + 1 => by
  unfold edgesM; split
  ·exact stepE_le (edgesM_le n l k)
  ·intro j hj; have := edgesM_le n l k j hj; omega


/-- an edge from j to i -/
def Lk (adj : Adj) (j i : Nat) : Prop := ∃ t, ((i : Int), t) ∈ adj[j]?.getD []
/-- a walk of m edges from b to i -/
def W (adj : Adj) (b : Nat) : Nat → Nat → Prop
 | 0, i => i = b
 | m + 1, i => ∃ j, W adj b m j ∧ Lk adj j i

def negs : List Int → Nat
 | [] => 0
 | x :: l => (if x < 0 then 1 else 0) + negs l
theorem negs_set : ∀ (l : List Int) (i : Nat) (x y : Int), l[i]? = some x → x < 0 → 0 ≤ y → negs (l.set i y) + 1 = negs l
 | [], i, x, y, h, _, _ => by simp at h
 | a :: l, 0, x, y, h, hx, hy => by
  simp only [List.getElem?_cons_zero, Option.some.injEq] at h
  subst h
  simp only [List.set_cons_zero, negs]
  rw [if_pos hx, if_neg (by omega)]; omega
 | a :: l, i + 1, x, y, h, hx, hy => by
  simp only [List.getElem?_cons_succ] at h
  have := negs_set l i x y h hx hy
  simp only [List.set_cons_succ, negs]; omega
theorem negs_rep : ∀ n, negs (List.replicate n (-1)) = n
 | 0 => rfl
 | n + 1 => by rw [List.replicate_succ, negs, negs_rep n, if_pos (by omega)]; omega

structure BF (adj : Adj) (b : Nat) (D : List Int) (Q : List Nat) (k : Nat) : Prop where
 dl : D.length = adj.length
 wk : ∀ (i d : Nat), D[i]? = some (d : Int) → W adj b d i
 q1 : ∀ (j i : Nat), Q[j]? = some i → ∃ d : Nat, D[i]? = some (d : Int) ∧ d ≤ j
 q2 : ∀ (i d : Nat), D[i]? = some (d : Int) → ∃ j : Nat, Q[j]? = some i
 neg : ∀ (i : Nat) (x : Int), D[i]? = some x → -1 ≤ x
 mono : ∀ (j j' i i' d d' : Nat), j ≤ j' → Q[j]? = some i → Q[j']? = some i' → D[i]? = some (d : Int) → D[i']? = some (d' : Int) → d ≤ d'
 near : ∀ (j i c d d' : Nat), Q[k]? = some c → D[c]? = some (d : Int) → Q[j]? = some i → D[i]? = some (d' : Int) → d' ≤ d + 1
 done : ∀ (j i i' : Nat), j < k → Q[j]? = some i → Lk adj i i' → ∃ d d' : Nat, D[i]? = some (d : Int) ∧ D[i']? = some (d' : Int) ∧ d' ≤ d + 1
 cnt : negs D + Q.length = adj.length
 b0 : D[b]? = some ((0 : Nat) : Int)

theorem BF.start (adj : Adj) (b : Nat) (hb : b < adj.length) : BF adj b ((List.replicate adj.length (-1)).set b 0) [b] 0 := by
 have hl : b < (List.replicate adj.length (-1 : Int)).length := by simpa using hb
 have g : ∀ i x, ((List.replicate adj.length (-1 : Int)).set b 0)[i]? = some x → (i = b ∧ x = 0) ∨ (i ≠ b ∧ x = -1) := by
  intro i x h
  by_cases e : i = b
  ·subst e; rw [List.getElem?_set_self hl] at h; cases h; exact .inl ⟨rfl, rfl⟩
  ·rw [List.getElem?_set_ne (Ne.symm e), List.getElem?_replicate] at h
   split at h
   ·cases h; exact .inr ⟨e, rfl⟩
   ·cases h
 have gb : ((List.replicate adj.length (-1 : Int)).set b 0)[b]? = some 0 := List.getElem?_set_self hl
 have q : ∀ (j i : Nat), ([b] : List Nat)[j]? = some i → j = 0 ∧ i = b := by
  intro j i h
  cases j with
  | zero => simp at h; exact ⟨rfl, h.symm⟩
  | succ j => simp at h
 refine ⟨by simp, ?_, ?_, ?_, ?_, ?_, ?_, ?_, ?_, gb⟩
 ·intro i d h
  rcases g i _ h with ⟨rfl, e⟩ | ⟨_, e⟩
  ·have : d = 0 := by omega
   subst this; exact rfl
  ·omega
 ·intro j i h
  obtain ⟨rfl, rfl⟩ := q j i h
  exact ⟨0, gb, by omega⟩
 ·intro i d h
  rcases g i _ h with ⟨rfl, e⟩ | ⟨_, e⟩
  ·exact ⟨0, rfl⟩
  ·omega
 ·intro i x h
  rcases g i _ h with ⟨rfl, e⟩ | ⟨_, e⟩ <;> omega
 ·intro j j' i i' d d' _ _ _ h3 h4
  rcases g i _ h3 with ⟨_, e⟩ | ⟨_, e⟩ <;> omega
 ·intro j i c d d' _ h2 _ h4
  rcases g i _ h4 with ⟨_, e⟩ | ⟨_, e⟩ <;> omega
 ·intro j i i' h; omega
 ·have := negs_set (List.replicate adj.length (-1)) b (-1) 0 (by rw [List.getElem?_replicate, if_pos hb]) (by omega) (by omega)
  rw [negs_rep] at this
  simpa using this

theorem BF.push {adj : Adj} {b : Nat} {D : List Int} {Q : List Nat} {k : Nat} (B : BF adj b D Q k) {c i d : Nat} {x : Int} (hc : Q[k]? = some c) (hd : D[c]? = some (d : Int)) (hl : Lk adj c i) (hi : D[i]? = some x) (hx : x < 0) :
  BF adj b (D.set i ((d + 1 : Nat) : Int)) (Q ++ [i]) k ∧ (Q ++ [i])[k]? = some c ∧ (D.set i ((d + 1 : Nat) : Int))[c]? = some (d : Int) := by
 have hil : i < D.length := (List.getElem?_eq_some_iff.1 hi).1
 have hci : c ≠ i := by intro e; subst e; rw [hd] at hi; cases hi; omega
 have hkl : k < Q.length := (List.getElem?_eq_some_iff.1 hc).1
 have g : ∀ (m : Nat) (y : Int), (D.set i ((d + 1 : Nat) : Int))[m]? = some y → (m = i ∧ y = ((d + 1 : Nat) : Int)) ∨ (m ≠ i ∧ D[m]? = some y) := by
  intro m y h
  by_cases e : m = i
  ·subst e; rw [List.getElem?_set_self hil] at h; cases h; exact .inl ⟨rfl, rfl⟩
  ·rw [List.getElem?_set_ne (Ne.symm e)] at h; exact .inr ⟨e, h⟩
 have gi : (D.set i ((d + 1 : Nat) : Int))[i]? = some ((d + 1 : Nat) : Int) := List.getElem?_set_self hil
 have gn : ∀ (m : Nat), m ≠ i → (D.set i ((d + 1 : Nat) : Int))[m]? = D[m]? := fun m e => List.getElem?_set_ne (Ne.symm e)
 have gnn : ∀ (m : Nat) (y : Nat), D[m]? = some (y : Int) → (D.set i ((d + 1 : Nat) : Int))[m]? = some (y : Int) := by
  intro m y h
  have : m ≠ i := by intro e; subst e; rw [hi] at h; cases h; omega
  rw [gn m this]; exact h
 have q : ∀ (j m : Nat), (Q ++ [i])[j]? = some m → (Q[j]? = some m ∧ m ≠ i) ∨ (j = Q.length ∧ m = i) := by
  intro j m h
  by_cases e : j < Q.length
  ·rw [List.getElem?_append_left e] at h
   refine .inl ⟨h, ?_⟩
   intro e2; subst e2
   obtain ⟨d2, h2, _⟩ := B.q1 j _ h
   rw [hi] at h2; cases h2; omega
  ·rw [List.getElem?_append_right (by omega)] at h
   by_cases e2 : j - Q.length = 0
   ·rw [e2] at h; simp at h; exact .inr ⟨by omega, h.symm⟩
   ·obtain ⟨z, hz⟩ : ∃ z, j - Q.length = z + 1 := ⟨j - Q.length - 1, by omega⟩
    rw [hz] at h; simp at h
 have qc : (Q ++ [i])[k]? = some c := by rw [List.getElem?_append_left hkl]; exact hc
 have dk : d ≤ k := by
  obtain ⟨d2, h2, h3⟩ := B.q1 k c hc
  rw [hd] at h2; cases h2; omega
 refine ⟨⟨by rw [List.length_set]; exact B.dl, ?_, ?_, ?_, ?_, ?_, ?_, ?_, ?_, ?_⟩, qc, gnn c d hd⟩
 ·intro m y h
  rcases g m _ h with ⟨rfl, e⟩ | ⟨_, h⟩
  ·have : y = d + 1 := by omega
   subst this
   exact ⟨c, B.wk c d hd, hl⟩
  ·exact B.wk m y h
 ·intro j m h
  rcases q j m h with ⟨h, _⟩ | ⟨rfl, rfl⟩
  ·obtain ⟨d2, h2, h3⟩ := B.q1 j m h
   exact ⟨d2, gnn m d2 h2, h3⟩
  ·exact ⟨d + 1, gi, by omega⟩
 ·intro m y h
  rcases g m _ h with ⟨rfl, e⟩ | ⟨_, h⟩
  ·exact ⟨Q.length, by simp⟩
  ·obtain ⟨j, hj⟩ := B.q2 m y h
   have : j < Q.length := (List.getElem?_eq_some_iff.1 hj).1
   exact ⟨j, by rw [List.getElem?_append_left this]; exact hj⟩
 ·intro m y h
  rcases g m _ h with ⟨rfl, e⟩ | ⟨_, h⟩
  ·omega
  ·exact B.neg m y h
 ·intro j j' m m' y y' hj h1 h2 h3 h4
  rcases q j m h1 with ⟨k1, n1⟩ | ⟨e1, r1⟩ <;> rcases q j' m' h2 with ⟨k2, n2⟩ | ⟨e2, r2⟩
  ·rw [gn m n1] at h3; rw [gn m' n2] at h4
   exact B.mono j j' m m' y y' hj k1 k2 h3 h4
  ·rw [gn m n1] at h3; rw [r2, gi] at h4
   have := B.near j m c d y hc hd k1 h3
   cases h4; omega
  ·have : j' < Q.length := (List.getElem?_eq_some_iff.1 k2).1
   omega
  ·rw [r1, gi] at h3; rw [r2, gi] at h4
   have h5 := Option.some.inj h3; have h6 := Option.some.inj h4; omega
 ·intro j m c' y y' h1 h2 h3 h4
  rw [qc] at h1; cases h1
  rw [gnn c d hd] at h2; cases h2
  rcases q j m h3 with ⟨h3, n3⟩ | ⟨e3, rfl⟩
  ·rw [gn m n3] at h4
   exact B.near j m c d y' hc hd h3 h4
  ·rw [gi] at h4; cases h4; omega
 ·intro j m m' hj h1 h2
  rcases q j m h1 with ⟨h1, n1⟩ | ⟨e1, rfl⟩
  ·obtain ⟨y, y', h3, h4, h5⟩ := B.done j m m' hj h1 h2
   exact ⟨y, y', gnn m y h3, gnn m' y' h4, h5⟩
  ·omega
 ·have := negs_set D i x ((d + 1 : Nat) : Int) hi hx (by omega)
  have := B.cnt
  simp only [List.length_append, List.length_cons, List.length_nil]; omega
 ·exact gnn b 0 B.b0

theorem BF.next {adj : Adj} {b : Nat} {D : List Int} {Q : List Nat} {k c : Nat} (B : BF adj b D Q k) (hc : Q[k]? = some c) (hrow : ∀ i, Lk adj c i → ∃ d : Nat, D[i]? = some (d : Int)) : BF adj b D Q (k + 1) := by
 obtain ⟨d, hd, _⟩ := B.q1 k c hc
 refine ⟨B.dl, B.wk, B.q1, B.q2, B.neg, B.mono, ?_, ?_, B.cnt, B.b0⟩
 ·intro j i c' d1 d' h1 h2 h3 h4
  have := B.mono k (k + 1) c c' d d1 (by omega) hc h1 hd h2
  have := B.near j i c d d' hc hd h3 h4
  omega
 ·intro j i i' hj h1 h2
  by_cases e : j < k
  ·exact B.done j i i' e h1 h2
  ·have : j = k := by omega
   subst this
   rw [hc] at h1; cases h1
   obtain ⟨d', hd'⟩ := hrow i' h2
   obtain ⟨j', hj'⟩ := B.q2 i' d' hd'
   exact ⟨d, d', hd, hd', B.near j' i' _ d d' hc hd hj' hd'⟩

/-- D holds the distances from b -/
structure Dist (adj : Adj) (b : Nat) (D : List Int) : Prop where
 len : D.length = adj.length
 lo : ∀ (i : Nat) (x : Int), D[i]? = some x → -1 ≤ x ∧ x ≤ adj.length
 wk : ∀ (i d : Nat), D[i]? = some (d : Int) → W adj b d i
 all : ∀ (m i : Nat), W adj b m i → ∃ d : Nat, D[i]? = some (d : Int) ∧ d ≤ m
 b0 : D[b]? = some ((0 : Nat) : Int)

theorem BF.dist {adj : Adj} {b : Nat} {D : List Int} {Q : List Nat} {k : Nat} (B : BF adj b D Q k) (hk : Q.length ≤ k) : Dist adj b D := by
 refine ⟨B.dl, ?_, B.wk, ?_, B.b0⟩
 ·intro i x h
  refine ⟨B.neg i x h, ?_⟩
  by_cases e : x < 0
  ·omega
  ·obtain ⟨d, rfl⟩ : ∃ d : Nat, x = (d : Int) := ⟨x.toNat, by omega⟩
   obtain ⟨j, hj⟩ := B.q2 i d h
   obtain ⟨d2, h2, h3⟩ := B.q1 j i hj
   rw [h] at h2; cases h2
   have := (List.getElem?_eq_some_iff.1 hj).1
   have := B.cnt
   omega
 ·intro m
  induction m with
  | zero => intro i h; cases h; exact ⟨0, B.b0, by omega⟩
  | succ m ih =>
   rintro i ⟨j, hj, hl⟩
   obtain ⟨d, hd, hm⟩ := ih j hj
   obtain ⟨p, hp⟩ := B.q2 j d hd
   have : p < Q.length := (List.getElem?_eq_some_iff.1 hp).1
   obtain ⟨d1, d', h1, h2, h3⟩ := B.done p j i (by omega) hp hl
   rw [hd] at h1; cases h1
   exact ⟨d', h2, by omega⟩

/-- edges lead both ways, between nodes -/
structure Und (adj : Adj) : Prop where
 sym : ∀ (i j : Nat) (t : Int), ((j : Int), t) ∈ adj[i]?.getD [] → ((i : Int), t) ∈ adj[j]?.getD []
 rg : ∀ (i : Nat) (e : Int × Int), e ∈ adj[i]?.getD [] → 0 ≤ e.1 ∧ e.1 < adj.length

/-- from a node at distance d + 1 an edge leads nearer -/
theorem Dist.step {adj : Adj} {b : Nat} {D : List Int} (h : Dist adj b D) (u : Und adj) {a d : Nat} (ha : D[a]? = some ((d + 1 : Nat) : Int)) : ∃ (j : Nat) (t : Int), ((j : Int), t) ∈ adj[a]?.getD [] ∧ D[j]? = some (d : Int) := by
 obtain ⟨j, hj, t, hl⟩ := h.wk a (d + 1) ha
 refine ⟨j, t, u.sym j a t hl, ?_⟩
 obtain ⟨d', h1, h2⟩ := h.all d j hj
 obtain ⟨d2, h3, h4⟩ := h.all (d' + 1) a ⟨j, h.wk j d' h1, t, hl⟩
 rw [ha] at h3; cases h3
 have : d' = d := by omega
 rw [← this]; exact h1
theorem Dist.zero {adj : Adj} {b : Nat} {D : List Int} (h : Dist adj b D) {a : Nat} (ha : D[a]? = some ((0 : Nat) : Int)) : a = b := h.wk a 0 ha

/-- the path that the program walks -/
def atD (D : List Int) (i : Int) : Int := D[i.toNat]?.getD (-1)
noncomputable def pathM (adj : Adj) (D : List Int) : Nat → Int → List Int
 | 0, _ => []
 | m + 1, a => match (adj[a.toNat]?.getD []).find? (fun e => atD D e.1 == atD D a - 1) with
  | some e => e.2 :: pathM adj D m e.1
  | none => []
theorem mem_addE (adj : Adj) (i : Int) (x e : Int × Int) (m : Nat) : e ∈ (addE adj i x)[m]?.getD [] ↔ e ∈ adj[m]?.getD [] ∨ (m = i.toNat ∧ m < adj.length ∧ e = x) := by
 unfold addE
 by_cases h : i.toNat = m
 ·subst h
  by_cases hl : i.toNat < adj.length
  ·rw [List.getElem?_set_self hl]; simp [hl]
  ·rw [List.getElem?_eq_none (by simpa using hl), List.getElem?_eq_none (by omega)]; simp; intro h; exact absurd h hl
 ·rw [List.getElem?_set_ne h]
  constructor
  ·exact .inl
  ·rintro (h2 | ⟨h2, _⟩)
   ·exact h2
   ·exact absurd h2.symm h

/-- step q joins i and j -/
def Joins (n : Nat) (l : List StepT) (q : Nat) (i j : Int) : Prop := ∃ x, l[q]? = some x ∧ inR n x.1 ∧ inR n x.2.1 ∧ ((x.1 = i ∧ x.2.1 = j) ∨ (x.2.1 = i ∧ x.1 = j))
theorem mem_edges (n : Nat) (l : List StepT) : ∀ (k m : Nat) (e : Int × Int), e ∈ (edgesM n l k)[m]?.getD [] ↔ ∃ q, q < k ∧ e.2 = (q : Int) ∧ Joins n l q (m : Int) e.1
 | 0, m, e => by
  have : (edgesM n l 0)[m]?.getD [] = [] := by
   rw [edgesM, List.getElem?_replicate]; split <;> rfl
  rw [this]
  constructor
  ·intro h; simp at h
  ·rintro ⟨q, h, _⟩; omega
 | k + 1, m, e => by
  have ih := mem_edges n l k m e
  have none' : (∀ i j, ¬ Joins n l k i j) → ((∃ q, q < k + 1 ∧ e.2 = (q : Int) ∧ Joins n l q (m : Int) e.1) ↔ ∃ q, q < k ∧ e.2 = (q : Int) ∧ Joins n l q (m : Int) e.1) := by
   intro h
   constructor
   ·rintro ⟨q, h1, h2, h3⟩
    by_cases eq : q = k
    ·subst eq; exact absurd h3 (h _ _)
    ·exact ⟨q, by omega, h2, h3⟩
   ·rintro ⟨q, h1, h2, h3⟩; exact ⟨q, by omega, h2, h3⟩
  unfold edgesM
  split
  next x hx =>
   unfold stepE
   split
   next hin =>
    rw [mem_addE, mem_addE, ih, addE_len, edgesM_len]
    constructor
    ·rintro ((⟨q, h1, h2, h3⟩ | ⟨h1, h2, rfl⟩) | ⟨h1, h2, rfl⟩)
     ·exact ⟨q, by omega, h2, h3⟩
     ·exact ⟨k, by omega, rfl, x, hx, hin.1, hin.2, .inl ⟨by have := hin.1.1; clear ih none'; omega, rfl⟩⟩
     ·exact ⟨k, by omega, rfl, x, hx, hin.1, hin.2, .inr ⟨by have := hin.2.1; clear ih none'; omega, rfl⟩⟩
    ·rintro ⟨q, h1, h2, h3⟩
     by_cases eq : q = k
     ·subst eq
      obtain ⟨y, hy, hl, hr, h4⟩ := h3
      rw [hx] at hy; cases hy
      rcases h4 with ⟨h5, h6⟩ | ⟨h5, h6⟩
      ·exact .inl (.inr ⟨by omega, by have := hl.2; omega, by rw [h6, ← h2]⟩)
      ·exact .inr ⟨by omega, by have := hr.2; omega, by rw [h6, ← h2]⟩
     ·exact .inl (.inl ⟨q, by omega, h2, h3⟩)
   next hin =>
    rw [none' ?_]; exact ih
    rintro i j ⟨y, hy, hl, hr, _⟩
    rw [hx] at hy; cases hy
    exact hin ⟨hl, hr⟩
  next hx =>
   rw [none' ?_]; exact ih
   rintro i j ⟨y, hy, _⟩
   rw [hx] at hy; cases hy

theorem edges_und (n : Nat) (l : List StepT) (k : Nat) : Und (edgesM n l k) := by
 refine ⟨?_, ?_⟩
 ·intro i j t h
  rw [mem_edges] at h ⊢
  obtain ⟨q, h1, h2, x, hx, hl, hr, h3⟩ := h
  refine ⟨q, h1, h2, x, hx, hl, hr, ?_⟩
  rcases h3 with ⟨h3, h4⟩ | ⟨h3, h4⟩
  ·exact .inr ⟨h4, h3⟩
  ·exact .inl ⟨h4, h3⟩
 ·intro i e h
  rw [mem_edges] at h
  obtain ⟨q, h1, h2, x, hx, hl, hr, h3⟩ := h
  rw [edgesM_len]
  rcases h3 with ⟨h3, h4⟩ | ⟨h3, h4⟩
  ·rw [← h4]; exact hr
  ·rw [← h4]; exact hl


/-- the graph of the steps below an index -/
noncomputable def grM (s : SatT) (below : Int) : Adj := edgesM s.1.length s.2.1 (min s.2.1.length below.toNat)
theorem atD_of {D : List Int} {i : Nat} {x : Int} (h : D[i]? = some x) : atD D (i : Int) = x := by simp [atD, h]
theorem find_first {α : Type} : ∀ (l : List α) (m : Nat) (p : α → Bool) (h : m < l.length), p l[m] = true → (∀ j (hj : j < m), p (l[j]'(by omega)) = false) → l.find? p = some l[m]
 | [], m, p, h, _, _ => by simp at h
 | x :: l, 0, p, h, h1, _ => by simp only [List.getElem_cons_zero] at h1 ⊢; rw [List.find?_cons, h1]
 | x :: l, m + 1, p, h, h1, h2 => by
  have h0 := h2 0 (by omega)
  simp only [List.getElem_cons_zero] at h0
  rw [List.find?_cons, h0]
  exact find_first l m p (by simpa using h) h1 (fun j hj => h2 (j + 1) (by omega))
/-- what shortest returns -/
noncomputable def shortM (adj : Adj) (D : List Int) (a : Int) : List Int × Bool := if atD D a < 0 then ([], false) else (pathM adj D (atD D a).toNat a, true)


/-- what Path returns -/
def PathSays (s : SatT) (a b below : Int) (row : List Int) (ok : Bool) : Prop :=
 (¬ (inR s.1.length a ∧ inR s.1.length b) ∧ row = [] ∧ ok = false) ∨
 (inR s.1.length a ∧ inR s.1.length b ∧ ∃ D, Dist (grM s below) b.toNat D ∧ (row, ok) = shortM (grM s below) D a)

theorem W.trans {adj : Adj} {a b c : Nat} {m : Nat} (h : W adj b m a) : ∀ (n i : Nat), W adj a n i → W adj b (m + n) i
 | 0, i, hi => by cases hi; exact h
 | n + 1, i, ⟨j, hj, hl⟩ => ⟨j, W.trans (c := c) h n j hj, hl⟩
theorem Und.lk {adj : Adj} (u : Und adj) {i j : Nat} (h : Lk adj i j) : Lk adj j i := by
 obtain ⟨t, ht⟩ := h; exact ⟨t, u.sym i j t ht⟩
theorem W.sym {adj : Adj} (u : Und adj) : ∀ (m : Nat) {a b : Nat}, W adj b m a → W adj a m b
 | 0, a, b, h => by cases h; exact rfl
 | m + 1, a, b, ⟨j, hj, hl⟩ => by
  have h1 : W adj a 1 j := ⟨a, rfl, u.lk hl⟩
  have := W.trans (c := 0) h1 m b (W.sym u m hj)
  rw [Nat.add_comm] at this; exact this
theorem pathM_len {adj : Adj} {b : Nat} {D : List Int} (h : Dist adj b D) (u : Und adj) : ∀ (d a : Nat), D[a]? = some (d : Int) → (pathM adj D d (a : Int)).length = d
 | 0, a, _ => rfl
 | d + 1, a, ha => by
  obtain ⟨j, t, h1, h2⟩ := h.step u ha
  have e : atD D (a : Int) - 1 = (d : Int) := by rw [atD_of ha]; omega
  rw [pathM, e, Int.toNat_natCast]
  cases hf : (adj[a]?.getD []).find? (fun e => atD D e.1 == (d : Int)) with
  | none =>
   exfalso
   rw [List.find?_eq_none] at hf
   have := hf _ h1
   rw [atD_of h2] at this; simp at this
  | some x =>
   have hx := List.mem_of_find?_eq_some hf
   have hp := List.find?_some hf
   have hr := u.rg a x hx
   obtain ⟨i, hi⟩ : ∃ i : Nat, x.1 = (i : Int) := ⟨x.1.toNat, by omega⟩
   have hil : i < D.length := by rw [h.len]; omega
   have hDi : D[i]? = some D[i] := List.getElem?_eq_getElem hil
   rw [hi, atD_of hDi] at hp
   have hdi : D[i] = (d : Int) := by simpa using hp
   simp only [List.length_cons]
   rw [hi, pathM_len h u d i (by rw [hDi, hdi])]

/-- Path finds a shortest walk -/
structure Short (s : SatT) (a b below : Int) (row : List Int) (ok : Bool) : Prop where
 bd : row.length ≤ s.1.length
 no : ok = false → row = []
 yes : ok = true → W (grM s below) b.toNat row.length a.toNat
 all : ∀ m, W (grM s below) b.toNat m a.toNat → ok = true ∧ row.length ≤ m
theorem PathSays.short {s : SatT} {a b below : Int} {row : List Int} {ok : Bool} (h : PathSays s a b below row ok) (ha : inR s.1.length a) (hb : inR s.1.length b) : Short s a b below row ok := by
 rcases h with ⟨h, _⟩ | ⟨_, _, D, hD, he⟩
 ·exact absurd ⟨ha, hb⟩ h
 ·have u : Und (grM s below) := edges_und _ _ _
  obtain ⟨i, rfl⟩ : ∃ i : Nat, a = (i : Int) := ⟨a.toNat, by have := ha.1; omega⟩
  have hil : i < D.length := by rw [hD.len]; show i < (grM s below).length; rw [grM, edgesM_len]; have := ha.2; omega
  have hDi : D[i]? = some D[i] := List.getElem?_eq_getElem hil
  rw [shortM, atD_of hDi] at he
  by_cases hn : D[i] < 0
  ·rw [if_pos hn] at he
   cases he
   refine ⟨by simp, fun _ => rfl, fun h => by (cases h), fun m hm => ?_⟩
   obtain ⟨d, hd, _⟩ := hD.all m i hm
   rw [hDi] at hd
   have := Option.some.inj hd; omega
  ·rw [if_neg hn] at he
   obtain ⟨d, hd⟩ : ∃ d : Nat, D[i] = (d : Int) := ⟨D[i].toNat, by omega⟩
   rw [hd] at he hDi
   have hl := pathM_len hD u d i hDi
   cases he
   have hlo := (hD.lo i _ hDi).2
   have hgl : (grM s below).length = s.1.length := edgesM_len _ _ _
   refine ⟨by rw [Int.toNat_natCast, hl]; omega, fun h => by (cases h), fun _ => ?_, fun m hm => ⟨rfl, ?_⟩⟩
   ·rw [Int.toNat_natCast, hl]; exact hD.wk i d hDi
   ·rw [Int.toNat_natCast, hl]
    obtain ⟨d', hd', hm'⟩ := hD.all m i hm
    rw [hDi] at hd'
    have := Option.some.inj hd'; omega

end Go.Dat
