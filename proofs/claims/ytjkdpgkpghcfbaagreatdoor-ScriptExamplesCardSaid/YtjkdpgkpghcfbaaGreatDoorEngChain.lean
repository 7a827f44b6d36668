/-
  A region whose order the model draws: the engine's order stands for every order.
-/
import Derived.Test.YtjkdpgkpghcfbaaGreatDoorEngReg
set_option linter.unusedSimpArgs false
set_option linter.unusedVariables false
namespace Go.Eng
set_option linter.unusedSectionVars false
variable [Gl] [Mx]

theorem Tran.widen {E E' : Gh} {h h' : Nat → Option AB} {w w' : World} {x y x0 y0 : Nat} (t : Tran E h w x E' h' w' y) (hx : x0 ≤ x) (hy : y ≤ y0) : Tran E h w x0 E' h' w' y0 := by
  have hle := t.le
  refine ⟨t.ext, by omega, ?_, t.hr, t.pr, t.size, ?_, t.own, t.frame, t.prot, t.env⟩
  · intro n d
    rcases t.dom n d with d | ⟨d, e⟩
    · exact .inl d
    · exact .inr ⟨by omega, by omega⟩
  · intro n b hb
    rcases t.names n b hb with r | ⟨d, e⟩
    · exact .inl r
    · exact .inr ⟨by omega, by omega⟩

structure Ent where
  i : Nat
  o : Oper
  T : Nat → Option AV
  want : Bool
  R : Nat → Option AB
  R' : Nat → Option AB
  x : Nat
  y : Nat
  v : AV
  pre : (Nat → Option AB) → Prop

/-- the slots ts hold what Tf says -/
def SR (E : Gh) (ts : List Tmp) (Tf : Nat → Option AV) (a : Act) : Prop := ∀ t ∈ ts, ∀ z, Tf t = some z → ∃ u, a.tmps[t]? = some u ∧ VR E z u

structure EntOk (P : Program) (ops : Array Oper) (nt : Nat) (e : Ent) : Prop where
  op : ops[e.i]? = some e.o
  dst : ∀ d, e.o.dst = some d → d < nt
  le : e.x ≤ e.y
  wants : ∀ E a, SR E (e.o.looksAt ops) e.T a → Region.wanted e.o (yielded ops a.tmps) = e.want
  no : e.want = false → e.v = .tup [] ∧ (∀ n, e.R n = none) ∧ (∀ n, e.R' n = none)
  yes : e.want = true → ∀ E a w K, SR E (e.o.looksAt ops) e.T a → HR E K w → e.pre K → (∀ n b, e.R n = some b → K n = some b) → PR E w → (∀ n, e.x ≤ n → n < e.y → ¬ E.dom n) → ∀ (next : Act → World → Prop) (Q : Exit → Act → World → Prop),
    (∀ v' w' E', VR E' e.v v' → Tran E e.R w e.x E' e.R' w' e.y → next (a.put e.o.dst v') w') → e.o.wp P a w next Q

def updT (Tf : Nat → Option AV) (e : Ent) : Nat → Option AV := fun t => if e.o.dst = some t then some e.v else Tf t

def touch (e : Ent) (n : Nat) : Prop := (e.R n).isSome = true ∨ (e.R' n).isSome = true

def Chain (ops : Array Oper) : List Ent → (Nat → Option AV) → (Nat → Option AB) → (Nat → Option AV) → (Nat → Option AB) → Prop
  | [], Tf, K, Tf', K' => Tf = Tf' ∧ K = K'
  | e :: l, Tf, K, Tf', K' => (∀ t ∈ e.o.looksAt ops, Tf t = e.T t) ∧ (∀ n b, e.R n = some b → K n = some b) ∧ e.pre K ∧ Chain ops l (updT Tf e) (merge K e.R e.R') Tf' K'

structure Indep (ops : Array Oper) (c e : Ent) : Prop where
  apart : c.o.apart ops e.o = true
  heap : ∀ n, touch c n → touch e n → c.R n = c.R' n ∧ e.R n = e.R' n
  preC : ∀ K, c.pre K → c.pre (merge K e.R e.R')
  preE : ∀ K, e.pre (merge K c.R c.R') → e.pre K

theorem merge_touch {K R R' : Nat → Option AB} {n : Nat} (h : (R n).isSome = true ∨ (R' n).isSome = true) : merge K R R' n = R' n := by
  unfold merge; rw [if_pos (by simpa using h)]
theorem merge_not {K R R' : Nat → Option AB} {n : Nat} (h : ¬ ((R n).isSome = true ∨ (R' n).isSome = true)) : merge K R R' n = K n := by
  unfold merge; rw [if_neg (by simpa using h)]

theorem Chain.swap {ops : Array Oper} {c e : Ent} {l : List Ent} {Tf Tf' : Nat → Option AV} {K K' : Nat → Option AB} (h : Chain ops (c :: e :: l) Tf K Tf' K') (hi : Indep ops c e) : Chain ops (e :: c :: l) Tf K Tf' K' := by
  obtain ⟨h1, h2, hp1, h3, h4, hp2, h5⟩ := h
  obtain ⟨a1, a2, a3⟩ := Oper.apart_spec hi.apart
  have subE : ∀ n b, e.R n = some b → K n = some b := by
    intro n b hb
    have := h4 n b hb
    by_cases ht : touch c n
    · rw [merge_touch ht] at this
      have hs := hi.heap n ht (.inl (by rw [hb]; rfl))
      rw [← hs.1] at this
      exact h2 n b this
    · rw [merge_not ht] at this; exact this
  have subC : ∀ n b, c.R n = some b → merge K e.R e.R' n = some b := by
    intro n b hb
    have hk := h2 n b hb
    by_cases ht : touch e n
    · rw [merge_touch ht]
      have hs := hi.heap n (.inl (by rw [hb]; rfl)) ht
      rw [← hs.2]
      have hsome : (e.R n).isSome = true := by
        rcases ht with ht | ht
        · exact ht
        · rw [hs.2]; exact ht
      obtain ⟨b', hb'⟩ := Option.isSome_iff_exists.1 hsome
      rw [hb', ← subE n b' hb', hk]
    · rw [merge_not ht]; exact hk
  have memo : merge (merge K e.R e.R') c.R c.R' = merge (merge K c.R c.R') e.R e.R' := by
    funext n
    by_cases hc : touch c n <;> by_cases he : touch e n
    · rw [merge_touch hc, merge_touch he]
      obtain ⟨s1, s2⟩ := hi.heap n hc he
      have c1 : ∃ b, c.R n = some b := by
        rcases hc with hc | hc
        · exact Option.isSome_iff_exists.1 hc
        · rw [← s1] at hc; exact Option.isSome_iff_exists.1 hc
      have e1 : ∃ b, e.R n = some b := by
        rcases he with he | he
        · exact Option.isSome_iff_exists.1 he
        · rw [← s2] at he; exact Option.isSome_iff_exists.1 he
      obtain ⟨b, hb⟩ := c1
      obtain ⟨b', hb'⟩ := e1
      rw [← s1, ← s2, hb, hb', ← h2 n b hb, ← subE n b' hb']
    · rw [merge_touch hc, merge_not he, merge_touch hc]
    · rw [merge_not hc, merge_touch he, merge_touch he]
    · rw [merge_not hc, merge_not he, merge_not he, merge_not hc]
  have tmo : updT (updT Tf e) c = updT (updT Tf c) e := by
    funext t
    unfold updT
    by_cases hc : c.o.dst = some t <;> by_cases he : e.o.dst = some t
    · exact absurd he (a2 t hc)
    · simp [hc, he]
    · simp [hc, he]
    · simp [hc, he]
  refine ⟨fun t ht => ?_, subE, hi.preE K hp2, fun t ht => ?_, subC, hi.preC K hp1, ?_⟩
  · have := h3 t ht
    unfold updT at this
    rw [if_neg (fun hd => a1 t hd ht)] at this
    exact this
  · have := h1 t ht
    unfold updT
    rw [if_neg (fun hd => a3 t hd ht)]
    exact this
  · rw [memo, tmo]; exact h5

theorem Chain.pull {ops : Array Oper} {e : Ent} {l2 : List Ent} {Tf' : Nat → Option AV} {K' : Nat → Option AB} : ∀ {l1 : List Ent} {Tf : Nat → Option AV} {K : Nat → Option AB}, Chain ops (l1 ++ e :: l2) Tf K Tf' K' →
    (∀ c ∈ l1, Indep ops c e) → Chain ops (e :: (l1 ++ l2)) Tf K Tf' K'
  | [], _, _, h, _ => h
  | c :: l1, Tf, K, h, hi => by
    obtain ⟨h1, h2, hp, h3⟩ := h
    have := Chain.pull h3 (fun d hd => hi d (by simp [hd]))
    exact Chain.swap (l := l1 ++ l2) ⟨h1, h2, hp, this⟩ (hi c (by simp))

/-- d must come before i, by an edge -/
def Edge1 (ops : Array Oper) (d i : Nat) : Prop := ∃ o, ops[i]? = some o ∧ ∃ e ∈ o.after, Region.binds .any e = true ∧ e.on = d

/-- by edges -/
inductive Dep (ops : Array Oper) : Nat → Nat → Prop where
  | one {d i : Nat} : Edge1 ops d i → Dep ops d i
  | more {c d i : Nat} : Dep ops c d → Edge1 ops d i → Dep ops c i

structure Rel2 (ops : Array Oper) (c e : Ent) : Prop where
  free : Indep ops c e ∨ Dep ops c.i e.i
  noBack : ¬ Edge1 ops e.i c.i
  names : c.y ≤ e.x
  ne : c.i ≠ e.i

theorem wpAny_chain {P : Program} {ops : Array Oper} {Q : Exit → Act → World → Prop} {nt x0 y0 : Nat} {E0 : Gh} {K0 : Nat → Option AB} {w0 : World} {Tf' : Nat → Option AV} {K' : Nat → Option AB}
    (hq : ∀ E a w, a.tmps.size = nt → (∀ t z, Tf' t = some z → ∃ u, a.tmps[t]? = some u ∧ VR E z u) → a.defers = [] → Tran E0 K0 w0 x0 E K' w y0 → Q .normal a w) :
    ∀ (k : Nat) (L : List Ent) (listed : Array Bool) (Tf : Nat → Option AV) (K : Nat → Option AB) (E : Gh) (a : Act) (w : World), L.length = k → listed.size = ops.size →
      (∀ i, i < ops.size → (listed.getD i true = false ↔ ∃ e ∈ L, e.i = i)) → (∀ e ∈ L, EntOk P ops nt e) → L.Pairwise (Rel2 ops) → (∀ e ∈ L, ¬ Edge1 ops e.i e.i) →
      (∀ d i, Edge1 ops d i → listed.getD i true = true → i < ops.size → listed.getD d true = true ∧ d < ops.size) → (∀ e ∈ L, ∀ d, Edge1 ops d e.i → d < ops.size) →
      Chain ops L Tf K Tf' K' → a.tmps.size = nt → (∀ t z, Tf t = some z → ∃ u, a.tmps[t]? = some u ∧ VR E z u) → a.defers = [] → HR E K w → PR E w →
      (∀ e ∈ L, x0 ≤ e.x ∧ e.y ≤ y0) → (∀ e ∈ L, ∀ n, e.x ≤ n → n < e.y → ¬ E.dom n) → Tran E0 K0 w0 x0 E K w y0 → wpAny P .any ops Q k listed a w := by
  intro k
  have getd : ∀ (listed : Array Bool) (j : Nat), j < ops.size → listed.size = ops.size → (listed.getD j false = true ↔ listed.getD j true = true) := by
    intro listed j hj hs
    have : j < listed.size := by omega
    simp [Array.getD, this]
  induction k with
  | zero =>
    intro L listed Tf K E a w hk hsz hlist _ _ _ _ _ hch hnt hT hd hr pr _ _ htr
    obtain rfl : L = [] := List.eq_nil_of_length_eq_zero hk
    obtain ⟨rfl, rfl⟩ := hch
    refine ⟨?_, hq E a w hnt hT hd htr⟩
    apply List.eq_nil_iff_forall_not_mem.2
    intro j hj
    obtain ⟨h0, o, ho, _⟩ := mem_ready.1 hj
    have hlt := (Array.getElem?_eq_some_iff.1 ho).1
    obtain ⟨e, he, _⟩ := (hlist j hlt).1 h0
    simp at he
  | succ k ih =>
    intro L listed Tf K E a w hk hsz hlist hok hpw hself hclosed hedges hch hnt hT hd hr pr hxy hfresh htr
    refine ⟨fun hready => ?_, fun i hi => ?_⟩
    · -- something is ready
      exfalso
      match L, hk with
      | e :: l, _ =>
        have hoe := (hok e (by simp)).op
        have hlt := (Array.getElem?_eq_some_iff.1 hoe).1
        have : e.i ∈ Region.ready .any ops listed := by
          rw [mem_ready]
          refine ⟨(hlist e.i hlt).2 ⟨e, by simp, rfl⟩, e.o, hoe, fun ed hed hb => ?_⟩
          have hedge : Edge1 ops ed.on e.i := ⟨e.o, hoe, ed, hed, hb, rfl⟩
          have hdl := hedges e (by simp) ed.on hedge
          rw [getd listed ed.on hdl hsz]
          cases hc : listed.getD ed.on true with
          | true => rfl
          | false =>
            exfalso
            obtain ⟨e', he', hei⟩ := (hlist ed.on hdl).1 hc
            rcases List.mem_cons.1 he' with rfl | he'
            · exact hself e' (by simp) (by rw [← hei] at hedge; exact hedge)
            · rw [← hei] at hedge
              exact ((List.pairwise_cons.1 hpw).1 e' he').noBack hedge
        rw [hready] at this
        cases this
    · obtain ⟨h0, o, ho, hall⟩ := mem_ready.1 hi
      have hlt := (Array.getElem?_eq_some_iff.1 ho).1
      obtain ⟨e, he, rfl⟩ := (hlist i hlt).1 h0
      have hek := hok e he
      obtain ⟨l1, l2, rfl⟩ := List.append_of_mem he
      have hoe : e.o = o := by have := hek.op; rw [ho] at this; cases this; rfl
      -- whatever i depends on is listed
      have hdep : ∀ c j, Dep ops c j → (∀ d, Edge1 ops d j → listed.getD d true = true ∧ d < ops.size) → listed.getD c true = true := by
        intro c j hcj
        induction hcj with
        | one h => intro hp; exact (hp _ h).1
        | more h1 h2 ih2 =>
          intro hp
          obtain ⟨hd1, hd2⟩ := hp _ h2
          exact ih2 fun d' hd' => hclosed d' _ hd' hd1 hd2
      have hpre : ∀ d, Edge1 ops d e.i → listed.getD d true = true ∧ d < ops.size := by
        rintro d ⟨o', ho', ed, hed, hb, rfl⟩
        rw [ho] at ho'
        cases ho'
        have hdl := hedges e he ed.on ⟨o, ho, ed, hed, hb, rfl⟩
        exact ⟨(getd listed ed.on hdl hsz).1 (hall ed hed hb), hdl⟩
      have hind : ∀ c ∈ l1, Indep ops c e := by
        intro c hc
        have hrel : Rel2 ops c e := by
          have := (List.pairwise_append.1 hpw).2.2 c hc e (by simp)
          exact this
        rcases hrel.free with h | h
        · exact h
        · exfalso
          have hl := hdep _ _ h hpre
          have hci := (hok c (by simp [hc])).op
          have hcl := (Array.getElem?_eq_some_iff.1 hci).1
          have := (hlist c.i hcl).2 ⟨c, by simp [hc], rfl⟩
          rw [this] at hl; cases hl
      obtain ⟨c1, c2, cp, c3⟩ := Chain.pull hch hind
      have hsr : SR E (e.o.looksAt ops) e.T a := by
        intro t ht z hz
        rw [← c1 t ht] at hz
        exact hT t z hz
      have hsub : (l1 ++ l2).Sublist (l1 ++ e :: l2) := List.Sublist.append (List.Sublist.refl _) (List.sublist_cons_self _ _)
      have hne : ∀ e' ∈ l1 ++ l2, e'.i ≠ e.i := by
        intro e' he'
        rcases List.mem_append.1 he' with h | h
        · exact ((List.pairwise_append.1 hpw).2.2 e' h e (by simp)).ne
        · exact Ne.symm ((List.pairwise_cons.1 (List.pairwise_append.1 hpw).2.1).1 e' h).ne
      have hdisj : ∀ e' ∈ l1 ++ l2, e'.y ≤ e.x ∨ e.y ≤ e'.x := by
        intro e' he'
        rcases List.mem_append.1 he' with h | h
        · exact .inl ((List.pairwise_append.1 hpw).2.2 e' h e (by simp)).names
        · exact .inr ((List.pairwise_cons.1 (List.pairwise_append.1 hpw).2.1).1 e' h).names
      have hin : ∀ e' ∈ l1 ++ l2, e' ∈ l1 ++ e :: l2 := fun e' h => hsub.subset h
      -- the rest of the region behind this operation
      have rest : ∀ v' w' E', VR E' e.v v' → Tran E K w x0 E' (merge K e.R e.R') w' y0 → (∀ n, E'.dom n → E.dom n ∨ (e.x ≤ n ∧ n < e.y)) → wpAny P .any ops Q k (listed.setIfInBounds e.i true) (a.put e.o.dst v') w' := by
        intro v' w' E' hv tr hdom
        refine ih (l1 ++ l2) _ (updT Tf e) _ E' _ w' ?_ (by simpa using hsz) ?_ (fun e' h => hok e' (hin e' h)) (hpw.sublist hsub) (fun e' h => hself e' (hin e' h)) ?_ (fun e' h => hedges e' (hin e' h)) c3 ?_ ?_ (by rw [put_defers]; exact hd) tr.hr tr.pr
          (fun e' h => hxy e' (hin e' h)) ?_ (htr.trans2 tr (Nat.le_refl _) (Nat.le_refl _))
        · simp at hk ⊢; omega
        · intro j hj
          by_cases ej : j = e.i
          · subst ej
            constructor
            · intro hf
              have : e.i < listed.size := by omega
              simp [Array.getD, this] at hf
            · rintro ⟨e', he', hei⟩
              exact absurd hei (hne e' he')
          · rw [getD_set_ne true (Ne.symm ej), hlist j hj]
            constructor
            · rintro ⟨e', he', rfl⟩
              refine ⟨e', ?_, rfl⟩
              rcases List.mem_append.1 he' with h | h
              · exact List.mem_append_left _ h
              · rcases List.mem_cons.1 h with rfl | h
                · exact absurd rfl ej
                · exact List.mem_append_right _ h
            · rintro ⟨e', he', rfl⟩
              exact ⟨e', hin e' he', rfl⟩
        · intro d j hedge hj hjl
          by_cases ej : j = e.i
          · subst ej
            obtain ⟨p1, p2⟩ := hpre d hedge
            refine ⟨?_, p2⟩
            by_cases ed : d = e.i
            · subst ed; exact hj
            · rw [getD_set_ne true (Ne.symm ed)]; exact p1
          · rw [getD_set_ne true (Ne.symm ej)] at hj
            obtain ⟨p1, p2⟩ := hclosed d j hedge hj hjl
            refine ⟨?_, p2⟩
            by_cases ed : d = e.i
            · subst ed
              have : e.i < listed.size := by omega
              simp [Array.getD, this]
            · rw [getD_set_ne true (Ne.symm ed)]; exact p1
        · cases hdst : e.o.dst with
          | none => simpa [Act.put, hdst] using hnt
          | some d => simpa [Act.put, hdst] using hnt
        · intro t z hz
          unfold updT at hz
          by_cases hdt : e.o.dst = some t
          · rw [if_pos hdt] at hz
            cases hz
            have := hek.dst t hdt
            exact ⟨v', by rw [hdt]; simp [Act.put, hnt, this], hv⟩
          · rw [if_neg hdt] at hz
            obtain ⟨u, hu, hzu⟩ := hT t z hz
            refine ⟨u, ?_, VR.mono tr.ext _ _ hzu⟩
            cases hdst : e.o.dst with
            | none => simpa [Act.put] using hu
            | some d =>
              have : d ≠ t := fun e' => hdt (by rw [hdst, e'])
              simp only [Act.put, Array.getElem?_setIfInBounds_ne this]
              exact hu
        · intro e' he' n h1 h2 hdn
          rcases hdom n hdn with h | ⟨h3, h4⟩
          · exact hfresh e' (hin e' he') n h1 h2 h
          · rcases hdisj e' he' with h | h <;> omega
      unfold wpOp
      rw [hek.op]
      simp only
      rw [hek.wants E a hsr]
      have hbx := hxy e he
      cases hw : e.want with
      | false =>
        simp only [Bool.false_eq_true, if_false]
        obtain ⟨n1, n2, n3⟩ := hek.no hw
        have hm : merge K e.R e.R' = K := by
          funext n
          rw [merge_not (by rw [n2 n, n3 n]; simp)]
        refine rest undef w E (by rw [n1]; exact VR.undef E) ?_ (fun n h => .inl h)
        rw [hm]
        exact (Tran.refl x0 hr pr).widen (Nat.le_refl _) (by have := hek.le; omega)
      | true =>
        simp only [if_true]
        refine .inl (hek.yes hw E a w K hsr hr cp c2 pr (hfresh e he) _ _ ?_)
        intro v' w' E' hv tr
        have t2 := tr.frameRule hr c2
        exact rest v' w' E' hv (t2.widen hbx.1 hbx.2) tr.dom

end Go.Eng
