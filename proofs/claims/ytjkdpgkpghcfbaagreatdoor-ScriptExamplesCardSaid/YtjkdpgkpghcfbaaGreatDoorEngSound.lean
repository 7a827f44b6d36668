/-
  The engine's run describes every run of the model.
-/
import Derived.Test.YtjkdpgkpghcfbaaGreatDoorEngPlan
import Derived.LoopN
set_option linter.unusedSimpArgs false
set_option linter.unusedVariables false
namespace Go.Eng
set_option linter.unusedSectionVars false
variable [Gl] [Mx]

/-! what the check of a plan says -/
section
variable {ops : Array Oper}

theorem binds_eq (e : Edge) : bindsA e = Region.binds .any e := by
  unfold bindsA Region.binds
  cases e.ground <;> rfl

theorem fold_bits (acc : List Nat) (c : Nat) : ∀ (es : List Edge) (s : Nat), (es.foldl (fun s e => bif bindsA e then s ||| (1 <<< e.on) ||| (acc.getD e.on 0) else s) s).testBit c = true →
    s.testBit c = true ∨ ∃ e ∈ es, bindsA e = true ∧ (e.on = c ∨ (acc.getD e.on 0).testBit c = true)
  | [], s, h => .inl h
  | e :: es, s, h => by
    simp only [List.foldl_cons] at h
    rcases fold_bits acc c es _ h with h | ⟨e', he', hb, hc⟩
    · cases hb : bindsA e
      · rw [hb, cond_false] at h; exact .inl h
      · rw [hb, cond_true] at h
        simp only [Nat.testBit_or, Bool.or_eq_true] at h
        rcases h with (h | h) | h
        · exact .inl h
        · refine .inr ⟨e, by simp, hb, .inl ?_⟩
          rw [Nat.one_shiftLeft, Nat.testBit_two_pow] at h
          simpa using h
        · exact .inr ⟨e, by simp, hb, .inr h⟩
    · exact .inr ⟨e', by simp [he'], hb, hc⟩

theorem befores_dep : ∀ (l : List Oper) (acc : List Nat) (k : Nat), l = ops.toList.drop k → acc.length = k → (∀ i c, (acc.getD i 0).testBit c = true → Dep ops c i) →
    ∀ i c, ((befores l acc).getD i 0).testBit c = true → Dep ops c i
  | [], acc, k, _, _, h, i, c, hb => h i c hb
  | o :: l, acc, k, hl, hk, h, i, c, hb => by
    have hlen : k < ops.size := by
      have := congrArg List.length hl
      simp at this; omega
    have ho : ops[k]? = some o := by
      have := congrArg (·[0]?) hl
      simp at this
      rw [← this]
    have hl' : l = ops.toList.drop (k + 1) := by
      rw [← List.drop_drop, ← hl]; rfl
    unfold befores at hb
    refine befores_dep l _ (k + 1) hl' (by simp [hk]) ?_ i c hb
    intro j d hj
    by_cases e : j < k
    · rw [List.getD_eq_getElem?_getD, List.getElem?_append_left (by omega), ← List.getD_eq_getElem?_getD] at hj
      exact h j d hj
    · by_cases e' : j = k
      · subst e'
        rw [List.getD_eq_getElem?_getD, List.getElem?_append_right (by omega)] at hj
        simp only [hk, Nat.sub_self, List.getElem?_cons_zero, Option.getD_some] at hj
        rcases fold_bits acc d o.after.toList 0 hj with h0 | ⟨ed, hed, hbd, hc⟩
        · simp at h0
        · have hedge : Edge1 ops ed.on j := ⟨o, ho, ed, by simpa using hed, by rw [← binds_eq]; exact hbd, rfl⟩
          rcases hc with rfl | hc
          · exact .one hedge
          · exact .more (h _ _ hc) hedge
      · rw [List.getD_eq_getElem?_getD, List.getElem?_eq_none (by simp; omega)] at hj
        simp at hj

structure PlanFacts (pol : FuncId → Bool) (ops : Array Oper) (bs : List Nat) (done : List PS) (l : List PS) : Prop where
  len : done.length + l.length = ops.size
  all : ∀ i, i < ops.size → i ∈ done.map (·.i) ∨ ∃ p ∈ l, p.i = i
  pw : l.Pairwise (fun c e => c.i ≠ e.i ∧ pairOk ops.toList bs c e = true ∧ ¬ Edge1 ops e.i c.i)
  ndone : ∀ p ∈ l, p.i ∉ done.map (·.i)
  pair : ∀ p ∈ l, ∀ c ∈ done, pairOk ops.toList bs c p = true
  self : ∀ p ∈ l, ¬ Edge1 ops p.i p.i
  lt : ∀ p ∈ l, ∀ d, Edge1 ops d p.i → d < ops.size
  mode : ∀ p ∈ l, ∀ o, ops[p.i]? = some o → modeOk (cls pol o.op) p.c = true

theorem plan_facts {pol : FuncId → Bool} {bs : List Nat} : ∀ {l : List PS} {done : List PS}, planOkB pol ops.toList bs done l = true → (∀ d ∈ done, d.i < ops.size) → PlanFacts pol ops bs done l
  | [], done, h, _ => by
    simp only [planOkB, Bool.and_eq_true, nbeq_iff, List.all_eq_true, List.mem_range] at h
    refine ⟨by simpa using h.1, fun i hi => .inl ?_, List.Pairwise.nil, by simp, by simp, by simp, by simp, by simp⟩
    have := h.2 i (by simpa using hi)
    simpa using this
  | p :: l, done, h, hd => by
    simp only [planOkB, Bool.and_eq_true, nblt_iff] at h
    obtain ⟨⟨⟨⟨hlt, hnd⟩, hed⟩, hpair⟩, hrest⟩ := h
    have hlt' : p.i < ops.size := by simpa using hlt
    have f := plan_facts hrest (by
      intro d hd'
      rcases List.mem_cons.1 hd' with rfl | hd'
      · exact hlt'
      · exact hd d hd')
    have hnd' : p.i ∉ done.map (·.i) := by simpa using hnd
    have edges : ∀ d, Edge1 ops d p.i → d ∈ done.map (·.i) := by
      rintro d ⟨o, ho, e, he, hb, rfl⟩
      have ho' : ops.toList[p.i]? = some o := by simpa using ho
      rw [ho'] at hed
      simp only [Bool.and_eq_true, List.all_eq_true, Bool.or_eq_true, Bool.not_eq_true'] at hed
      rcases hed.2 e (by simpa using he) with h | h
      · rw [binds_eq, hb] at h; cases h
      · simpa using h
    refine ⟨?_, ?_, ?_, ?_, ?_, ?_, ?_, ?_⟩
    · have := f.len; simp at this ⊢; omega
    · intro i hi
      rcases f.all i hi with h | ⟨q, hq, e⟩
      · rw [List.map_cons] at h
        rcases List.mem_cons.1 h with rfl | h
        · exact .inr ⟨p, by simp, rfl⟩
        · exact .inl h
      · exact .inr ⟨q, by simp [hq], e⟩
    · refine List.pairwise_cons.2 ⟨fun q hq => ⟨?_, f.pair q hq p (by simp), ?_⟩, f.pw⟩
      · intro e
        exact f.ndone q hq (by rw [← e]; simp)
      · intro hedge
        exact f.ndone q hq (by rw [List.map_cons]; exact List.mem_cons_of_mem _ (edges q.i hedge))
    · intro q hq
      rcases List.mem_cons.1 hq with rfl | hq
      · exact hnd'
      · intro h; exact f.ndone q hq (by rw [List.map_cons]; exact List.mem_cons_of_mem _ h)
    · intro q hq c hc
      rcases List.mem_cons.1 hq with rfl | hq
      · rw [List.all_eq_true] at hpair; exact hpair c hc
      · exact f.pair q hq c (by simp [hc])
    · intro q hq
      rcases List.mem_cons.1 hq with rfl | hq
      · intro h; exact hnd' (edges _ h)
      · exact f.self q hq
    · intro q hq d hedge
      rcases List.mem_cons.1 hq with rfl | hq
      · obtain ⟨x, hx, rfl⟩ := List.mem_map.1 (edges d hedge); exact hd x hx
      · exact f.lt q hq d hedge
    · intro q hq o ho
      rcases List.mem_cons.1 hq with rfl | hq
      · have ho' : ops.toList[q.i]? = some o := by simpa using ho
        rw [ho'] at hed
        simp only [Bool.and_eq_true] at hed
        exact hed.1
      · exact f.mode q hq o ho
end

section
variable {P : Program} {pol : FuncId → Bool} {rec : RunT}

theorem draw_ok (hmix : P.follows .mixedOrders = true) (hx : MxOk P) (hs : StepOk P pol rec) {nt : Nat} {ops : Array Oper} {pl : List PS} (hpl : planOf pol ops.toList = some pl) {T T' : Tm} {S S' : St} {E : Gh} {a : Act} {w : World}
    (h : (planA pol P ops.toList pl).f rec nt [] T S = some (T', S')) (ht : TR E nt T.get a) (hr : HR E S.heap.get w) (pr : PR E w) (fresh : ∀ n, S.next ≤ n → n < S'.next → ¬ E.dom n) (hd : a.defers = [])
    {Q : Exit → Act → World → Prop} (hq : ∀ E' a' w', TR E' nt T'.get a' → a'.defers = [] → Tran E S.heap.get w S.next E' S'.heap.get w' S'.next → Q .normal a' w') (id : Nat) : (Code.region id ops true).wp P Q a w := by
  refine wp_region_any hmix ?_
  have hok : planOkB pol ops.toList (befores ops.toList []) [] pl = true := by
    unfold planOf at hpl
    simp only at hpl
    cases hb : planOkB pol ops.toList (befores ops.toList []) [] (planFix (planFrom (befores ops.toList []) ops.toList.length [] ((ops.toList.zipIdx.map fun p => (p.2, p.1)).map fun q => (q.1, modeOf pol (befores ops.toList []) (ops.toList.zipIdx.map fun p => (p.2, p.1)) q.1 q.2)))) <;> rw [hb] at hpl
    · cases hpl
    · cases hpl; exact hb
  have f := plan_facts hok (by simp)
  obtain ⟨L, c1, c2, c3, c4, c5, c6, c7, cq, c8⟩ := plan_chain hx hs f.mode h
  have dep : ∀ i c, ((befores ops.toList []).getD i 0).testBit c = true → Dep ops c i := befores_dep ops.toList [] 0 rfl rfl (by intro i c h; simp at h)
  have hlen : L.length = ops.size := by
    have := congrArg List.length c2
    have h2 := f.len
    simp at this h2; omega
  have back : ∀ x ∈ L, ∃ p ∈ pl, p.i = x.e.i ∧ p.hide = x.hide := by
    intro x hx
    exact ⟨⟨x.e.i, x.hide, x.lg, x.c⟩, by rw [← c2]; exact List.mem_map.2 ⟨x, hx, rfl⟩, rfl, rfl⟩
  have hpw : L.Pairwise (fun c e => c.e.i ≠ e.e.i ∧ pairOk ops.toList (befores ops.toList []) ⟨c.e.i, c.hide, c.lg, c.c⟩ ⟨e.e.i, e.hide, e.lg, e.c⟩ = true ∧ ¬ Edge1 ops e.e.i c.e.i) := by
    have h1 := f.pw
    rw [← c2] at h1
    exact List.pairwise_map.1 h1
  have hrel : (L.map (·.e)).Pairwise (Rel2 ops) := by
    rw [List.pairwise_map]
    have := (hpw.and c7).imp_of_mem (S := fun c e => Rel2 ops c.e e.e) (fun {c e} hc he ⟨⟨h1, h2, h3⟩, h4, h5⟩ => by
      refine ⟨?_, h3, h4, h1⟩
      cases hb : ((befores ops.toList []).getD e.e.i 0).testBit c.e.i with
      | true => exact .inr (dep _ _ hb)
      | false => exact .inl (indep_of (c3 c hc).op (c3 e he).op (c4 c hc) (c4 e he) h5 (fun h => (cq e he h).1) (fun h => (cq e he h).2) h4 h2 hb))
    exact this
  have hpr : PR E { w with drawn := w.drawn + 1 } := pr.sameHeap rfl
  have hhr : HR E S.heap.get { w with drawn := w.drawn + 1 } := hr.sameHeap rfl
  refine wpAny_chain (P := P) (ops := ops) (nt := nt) (x0 := S.next) (y0 := S'.next) (E0 := E) (K0 := S.heap.get) (w0 := { w with drawn := w.drawn + 1 }) (Tf' := T'.get) (K' := S'.heap.get) ?_ ops.size (L.map (·.e)) _ T.get S.heap.get E a _ (by simpa using hlen) (by simp) ?_ ?_ hrel ?_ ?_ ?_ c1 ht.1 ht.2 hd hhr hpr ?_ ?_
    ((Tran.refl S.next hhr hpr).widen (Nat.le_refl _) c8)
  · intro E' a' w' h1 h2 h3 tr
    exact hq E' a' w' ⟨h1, h2⟩ h3 (tr.fromHeap rfl ⟨rfl, rfl, rfl⟩)
  · intro i hi
    constructor
    · intro _
      rcases f.all i hi with h | ⟨p, hp, rfl⟩
      · simp at h
      · have : p ∈ L.map (fun x => (⟨x.e.i, x.hide, x.lg, x.c⟩ : PS)) := by rw [c2]; exact hp
        obtain ⟨x, hx, e⟩ := List.mem_map.1 this
        exact ⟨x.e, List.mem_map.2 ⟨x, hx, rfl⟩, congrArg PS.i e⟩
    · intro _
      simp [Array.getD, hi]
  · intro e he
    obtain ⟨x, hx, rfl⟩ := List.mem_map.1 he
    exact c3 x hx
  · intro e he
    obtain ⟨x, hx, rfl⟩ := List.mem_map.1 he
    obtain ⟨p, hp, e1, _⟩ := back x hx
    rw [← e1]; exact f.self p hp
  · intro d i _ hi hlt
    simp [Array.getD, hlt] at hi
  · intro e he d hedge
    obtain ⟨x, hx, rfl⟩ := List.mem_map.1 he
    obtain ⟨p, hp, e1, _⟩ := back x hx
    rw [← e1] at hedge; exact f.lt p hp d hedge
  · intro e he
    obtain ⟨x, hx, rfl⟩ := List.mem_map.1 he
    exact c5 x hx
  · intro e he n h1 h2
    obtain ⟨x, hx, rfl⟩ := List.mem_map.1 he
    have := c5 x hx
    exact fresh n (by omega) (by omega)

/-- names only grow in a run -/
def Mono (rec : RunT) : Prop := ∀ nt c T S rs, rec nt c T S = some rs → ∀ r ∈ rs, S.next ≤ r.2.2.next

theorem plan_le (hx : MxOk P) (hs : StepOk P pol rec) {nt : Nat} {ops : Array Oper} {pl : List PS} (hpl : planOf pol ops.toList = some pl) {T T' : Tm} {S S' : St} {log : List LE} (h : (planA pol P ops.toList pl).f rec nt log T S = some (T', S')) : S.next ≤ S'.next := by
  have hok : planOkB pol ops.toList (befores ops.toList []) [] pl = true := by
    unfold planOf at hpl
    simp only at hpl
    cases hb : planOkB pol ops.toList (befores ops.toList []) [] (planFix (planFrom (befores ops.toList []) ops.toList.length [] ((ops.toList.zipIdx.map fun p => (p.2, p.1)).map fun q => (q.1, modeOf pol (befores ops.toList []) (ops.toList.zipIdx.map fun p => (p.2, p.1)) q.1 q.2)))) <;> rw [hb] at hpl
    · cases hpl
    · cases hpl; exact hb
  obtain ⟨L, _, _, _, _, _, _, _, _, h8⟩ := plan_chain hx hs (plan_facts hok (by simp)).mode h
  exact h8

theorem reg_le {nt : Nat} {l : List Oper} {T : Tm} {S : St} {rs : List (X × Tm × St)} (h : (regA pol P l).f rec nt T S = some rs) : ∀ r ∈ rs, S.next ≤ r.2.2.next := by
  unfold regA at h
  split at h
  · cases h
    intro r hr
    simp only [List.mem_singleton] at hr
    subst hr
    exact Nat.le_refl _
  · split at h
    · simp only [o2_eq, on3_eq, ob_some] at h
      obtain ⟨v, _, outs, _, h⟩ := h
      intro r hr
      obtain ⟨x, _, hx⟩ := mapO_mem h r hr
      simp only [o2_eq, on3_eq, ob_some, chk_some, nble_iff, Option.some.injEq] at hx
      obtain ⟨_, _, q, _, _, hle, rfl⟩ := hx
      exact hle
    · simp only [o2_eq, on3_eq, ob_some, Option.some.injEq] at h
      obtain ⟨⟨T1, S1⟩, h1, rfl⟩ := h
      intro r hr
      simp only [List.mem_singleton] at hr
      subst hr
      exact ops_le h1

theorem tran_fresh {E E1 : Gh} {S S1 : St} {m : Nat} {w w1 : World} (tr : Tran E S.heap.get w S.next E1 S1.heap.get w1 S1.next) (fresh : ∀ k, S.next ≤ k → k < m → ¬ E.dom k) : ∀ k, S1.next ≤ k → k < m → ¬ E1.dom k := by
  intro k h1 h2 d
  have hle := tr.le
  rcases tr.dom k d with d | ⟨_, d⟩
  · exact fresh k (by omega) h2 d
  · omega

theorem reg_ok (hs : StepOk P pol rec) {nt : Nat} {ops : Array Oper} {T : Tm} {S : St} {rs : List (X × Tm × St)} {E : Gh} {a : Act} {w : World} (h : (regA pol P ops.toList).f rec nt T S = some rs)
    (ht : TR E nt T.get a) (hr : HR E S.heap.get w) (pr : PR E w) (fresh : ∀ r ∈ rs, ∀ n, S.next ≤ n → n < r.2.2.next → ¬ E.dom n) (hd : a.defers = []) {Q : Exit → Act → World → Prop}
    (hq : ∀ T' S', (X.n, T', S') ∈ rs → ∀ E' a' w', TR E' nt T'.get a' → a'.defers = [] → Tran E S.heap.get w S.next E' S'.heap.get w' S'.next → Q .normal a' w') : wpOps P ops Q (List.range ops.size) a w := by
  have plain : ∀ T1 S1, (opsA pol P ops.toList ops.toList).f rec nt T S = some (T1, S1) → (X.n, T1, S1) ∈ rs → wpOps P ops Q (List.range ops.size) a w := by
    intro T1 S1 h1 hmem
    have := ops_ok (Q := Q) hs (k := 0) h1 rfl ht hr pr (fresh _ hmem) hd (hq T1 S1 hmem)
    rw [Nat.sub_zero, ← List.range_eq_range'] at this
    exact this
  unfold regA at h
  split at h
  · rename_i hnil
    cases h
    refine plain T S ?_ (by simp)
    rw [hnil]; rfl
  · rename_i o l hops
    split at h
    · rename_i x hop hg
      obtain ⟨dst, op, type, pos, after, guard⟩ := o
      simp only at hop hg
      subst hop
      subst hg
      simp only [o2_eq, on3_eq, ob_some] at h
      obtain ⟨v, hv, outs, houts, h⟩ := h
      have hlen : 0 < ops.size := by
        have := congrArg List.length hops
        simp at this; omega
      have ho : ops[0]? = some ⟨dst, .next x false, type, pos, after, none⟩ := by
        have := congrArg (·[0]?) hops
        simp at this
        simpa using this
      obtain ⟨r, hr1, hdo⟩ := next_does (P := P) (ty := type) houts (ev_rel ht pr hv) hr pr
      obtain ⟨y, hy, hx⟩ := mapO_all h r hr1
      simp only [o2_eq, on3_eq, ob_some, chk_some, nble_iff, Option.some.injEq] at hx
      obtain ⟨T1, hput, ⟨T2, S2⟩, hrest, _, hle, rfl⟩ := hx
      have hl' : l = ops.toList.drop 1 := by rw [hops]; rfl
      rw [List.range_eq_range', show ops.size = (ops.size - 1) + 1 from by omega, List.range'_succ]
      simp only [wpOps, ho]
      rw [if_pos (by rfl)]
      refine .inl (wp_of_does (o := ⟨dst, .next x false, type, pos, after, none⟩) (Does.ofV hdo) ?_)
      intro v' w' E' hvv tr
      have := ops_ok (Q := Q) hs (k := 1) hrest hl' (TR.put hput (ht.mono tr.ext) hvv) tr.hr tr.pr (tran_fresh tr (fresh _ hy)) (by rw [put_defers]; exact hd) (fun E2 a2 w2 ht2 hd2 tr2 => hq T2 S2 hy E2 a2 w2 ht2 hd2 (tr.trans tr2))
      simpa using this
    · simp only [o2_eq, on3_eq, ob_some, Option.some.injEq] at h
      obtain ⟨⟨T1, S1⟩, h1, rfl⟩ := h
      exact plain T1 S1 h1 (by simp)

/-- something comes of every run -/
def Some' (rec : RunT) : Prop := ∀ nt c T S rs, rec nt c T S = some rs → rs ≠ []

theorem cand_ne (es : List ME) (since : Nat) (seen : List Nat) : candA es since seen ≠ [] := by
  unfold candA
  dsimp only
  generalize List.filter (fun e => decide (e.born < since)) (List.filter (fun e => !seen.contains e.born) es) = o
  generalize List.filter (fun e => decide (e.born ≥ since)) (List.filter (fun e => !seen.contains e.born) es) = n
  cases o <;> simp

theorem next_ne {S : St} {x : AV} {outs : List (AV × St)} (h : nextA S x = some outs) : outs ≠ [] := by
  unfold nextA at h
  split at h
  · simp only [o2_eq, on3_eq, ob_some] at h
    obtain ⟨b, _, h⟩ := h
    split at h
    · cases h; simp
    · simp only [o2_eq, on3_eq, ob_some, Option.some.injEq] at h
      obtain ⟨c, _, _, _, rfl⟩ := h
      intro e
      exact cand_ne _ _ _ (List.map_eq_nil_iff.1 e)
    · cases h
  · cases h

theorem mapO_ne {α β : Type} {f : α → Option β} {l : List α} {rs : List β} (h : mapO f l = some rs) (hl : l ≠ []) : rs ≠ [] := by
  cases l with
  | nil => exact absurd rfl hl
  | cons x l =>
    obtain ⟨r, hr, _⟩ := mapO_all h x (by simp)
    exact List.ne_nil_of_mem hr

theorem reg_ne {nt : Nat} {l : List Oper} {T : Tm} {S : St} {rs : List (X × Tm × St)} (h : (regA pol P l).f rec nt T S = some rs) : rs ≠ [] := by
  unfold regA at h
  split at h
  · cases h; simp
  · split at h
    · simp only [o2_eq, on3_eq, ob_some] at h
      obtain ⟨v, _, outs, ho, h⟩ := h
      exact mapO_ne h (next_ne ho)
    · simp only [o2_eq, on3_eq, ob_some, Option.some.injEq] at h
      obtain ⟨_, _, rfl⟩ := h
      simp

/-- the loop, round by round -/
def LoopOk (P : Program) (n : Nat) (rec : RunT) : Prop :=
  ∀ nt b T S rs, rec nt (.loop b) T S = some rs → ∀ E a w, TR E nt T.get a → HR E S.heap.get w → PR E w → (∀ r ∈ rs, ∀ k, S.next ≤ k → k < r.2.2.next → ¬ E.dom k) → a.defers = [] →
    Code.rounds P b (fun e a' w' => ∃ r ∈ rs, ∃ E', XR r.1 e ∧ TR E' nt r.2.1.get a' ∧ a'.defers = [] ∧ Tran E S.heap.get w S.next E' r.2.2.heap.get w' r.2.2.next) n a w

theorem run_succ (pol : FuncId → Bool) (pl : List Oper → Option (List PS)) (P : Program) (n nt : Nat) (c : Code) (T : Tm) (S : St) :
    run pol pl P (n + 1) nt c T S = (runF pol pl P c).f (run pol pl P n) nt T S := rfl

theorem rounds_mono {c : Code} {Q Q' : Exit → Act → World → Prop} (h : ∀ e a w, Q e a w → Q' e a w) : ∀ (n : Nat) (a : Act) (w : World), Code.rounds P c Q n a w → Code.rounds P c Q' n a w
  | 0, _, _, hr => hr
  | n + 1, a, w, hr => by
    rw [rounds_succ] at hr ⊢
    refine wp_mono hr fun e a' w' he => ?_
    cases e <;> first | exact rounds_mono h n a' w' he | exact h _ _ _ he

/-- what stands behind a first part: the second part, where the first ended in the normal way -/
theorem cat_split {nt : Nat} {c : Code} {rs1 rs : List (X × Tm × St)} (h : catO (fun r => match r.1 with | .n => rec nt c r.2.1 r.2.2 | x => some [(x, r.2.1, r.2.2)]) rs1 = some rs) {r1 : X × Tm × St} (h1 : r1 ∈ rs1) :
    (r1.1 = .n ∧ ∃ q, rec nt c r1.2.1 r1.2.2 = some q ∧ ∀ r ∈ q, r ∈ rs) ∨ (r1.1 ≠ .n ∧ r1 ∈ rs) := by
  obtain ⟨q, hq, hall⟩ := catO_all h r1 h1
  obtain ⟨x, T1, S1⟩ := r1
  cases x with
  | n => exact .inl ⟨rfl, q, hq, hall⟩
  | e id =>
    simp only [Option.some.injEq] at hq
    subst hq
    exact .inr ⟨nofun, hall _ (by simp)⟩
  | r =>
    simp only [Option.some.injEq] at hq
    subst hq
    exact .inr ⟨nofun, hall _ (by simp)⟩

theorem cat_le {nt : Nat} {c : Code} {rs1 rs : List (X × Tm × St)} (mono : Mono rec) (h : catO (fun r => match r.1 with | .n => rec nt c r.2.1 r.2.2 | x => some [(x, r.2.1, r.2.2)]) rs1 = some rs) {m : Nat} (h1 : ∀ r ∈ rs1, m ≤ r.2.2.next) :
    ∀ r ∈ rs, m ≤ r.2.2.next := by
  intro r hr
  obtain ⟨⟨x, T1, S1⟩, hx, q, hq, hrq⟩ := catO_mem h r hr
  have := h1 _ hx
  cases x with
  | n => exact Nat.le_trans this (mono _ _ _ _ _ hq r hrq)
  | e id =>
    simp only [Option.some.injEq] at hq
    subst hq
    simp only [List.mem_singleton] at hrq
    subst hrq
    exact this
  | r =>
    simp only [Option.some.injEq] at hq
    subst hq
    simp only [List.mem_singleton] at hrq
    subst hrq
    exact this

/-- a first part leaves the names fresh that the whole may take -/
theorem cat_fresh {nt : Nat} {c : Code} {rs1 rs : List (X × Tm × St)} (mono : Mono rec) (h : catO (fun r => match r.1 with | .n => rec nt c r.2.1 r.2.2 | x => some [(x, r.2.1, r.2.2)]) rs1 = some rs) {S : St} {E : Gh}
    (fresh : ∀ r ∈ rs, ∀ k, S.next ≤ k → k < r.2.2.next → ¬ E.dom k) (le : Some' rec) : ∀ r ∈ rs1, ∀ k, S.next ≤ k → k < r.2.2.next → ¬ E.dom k := by
  intro r1 h1 k hk hlt
  rcases cat_split h h1 with ⟨_, q, hq, hall⟩ | ⟨_, hin⟩
  · cases q with
    | nil => exact absurd rfl (le _ _ _ _ _ hq)
    | cons r q =>
      exact fresh r (hall r (by simp)) k hk (Nat.lt_of_lt_of_le hlt (mono _ _ _ _ _ hq r (by simp)))
  · exact fresh r1 hin k hk hlt

theorem cat_ne {nt : Nat} {c : Code} {rs1 rs : List (X × Tm × St)} (le : Some' rec) (h : catO (fun r => match r.1 with | .n => rec nt c r.2.1 r.2.2 | x => some [(x, r.2.1, r.2.2)]) rs1 = some rs) (h1 : rs1 ≠ []) : rs ≠ [] := by
  cases rs1 with
  | nil => exact absurd rfl h1
  | cons r1 l =>
    rcases cat_split h (r1 := r1) (by simp) with ⟨_, q, hq, hall⟩ | ⟨_, hin⟩
    · cases q with
      | nil => exact absurd rfl (le _ _ _ _ _ hq)
      | cons r q => exact List.ne_nil_of_mem (hall r (by simp))
    · exact List.ne_nil_of_mem hin

theorem run_ok (hmix : P.follows .mixedOrders = true) (hx : MxOk P) (hP : NoNum P) : ∀ n, RecOk P (run pol (planOf pol) P n) ∧ Mono (run pol (planOf pol) P n) ∧ Some' (run pol (planOf pol) P n) ∧ LoopOk P n (run pol (planOf pol) P n)
  | 0 => ⟨(by intro nt c T S rs h; cases h), (by intro nt c T S rs h; cases h), (by intro nt c T S rs h; cases h), (by intro nt b T S rs h; cases h)⟩
  | n + 1 => by
    obtain ⟨ih, mono, ne, ihl⟩ := run_ok hmix hx hP n
    have hs : StepOk P pol (run pol (planOf pol) P n) := fun h ho hr pr fr _ _ hn => opSim hx hP ih h ho hr pr fr hn
    have mono' : Mono (run pol (planOf pol) P (n + 1)) := by
      intro nt c T S rs h
      rw [run_succ] at h
      cases c <;> simp only [runF, reduceCtorEq] at h
      case skip => cases h; intro r hr; simp only [List.mem_singleton] at hr; subst hr; exact Nat.le_refl _
      case exit id => cases h; intro r hr; simp only [List.mem_singleton] at hr; subst hr; exact Nat.le_refl _
      case ret => cases h; intro r hr; simp only [List.mem_singleton] at hr; subst hr; exact Nat.le_refl _
      case region id ops d =>
        cases d
        · exact reg_le h
        · simp only [cond_true] at h
          split at h
          · rename_i hpl
            simp only [o2_eq, on3_eq, ob_some, Option.some.injEq] at h
            obtain ⟨⟨T1, S1⟩, h1, rfl⟩ := h
            intro r hr
            simp only [List.mem_singleton] at hr
            subst hr
            exact plan_le hx hs hpl h1
          · cases h
      case seq p q =>
        rw [ob_some] at h
        obtain ⟨rs1, h1, h⟩ := h
        exact cat_le mono h (mono _ _ _ _ _ h1)
      case cond v p q =>
        rw [ob_some] at h
        obtain ⟨u, _, h⟩ := h
        split at h
        · exact mono _ _ _ _ _ h
        · exact mono _ _ _ _ _ h
        · cases h
      case block id b =>
        rw [ob_some] at h
        obtain ⟨rs1, h1, h⟩ := h
        have := mono _ _ _ _ _ h1
        cases h
        intro r hr
        obtain ⟨⟨x, T1, S1⟩, hx, rfl⟩ := List.mem_map.1 hr
        have := this _ hx
        cases x with
        | n => exact this
        | r => exact this
        | e i => simp only [on3_eq]; cases i.beq id <;> exact this
      case loop b =>
        rw [ob_some] at h
        obtain ⟨rs1, h1, h⟩ := h
        exact cat_le mono h (mono _ _ _ _ _ h1)
    have ne' : Some' (run pol (planOf pol) P (n + 1)) := by
      intro nt c T S rs h
      rw [run_succ] at h
      cases c <;> simp only [runF, reduceCtorEq] at h
      case skip => cases h; simp
      case exit id => cases h; simp
      case ret => cases h; simp
      case region id ops d =>
        cases d
        · exact reg_ne h
        · simp only [cond_true] at h
          split at h
          · simp only [o2_eq, on3_eq, ob_some, Option.some.injEq] at h
            obtain ⟨⟨T1, S1⟩, h1, rfl⟩ := h
            simp
          · cases h
      case seq p q =>
        rw [ob_some] at h
        obtain ⟨rs1, h1, h⟩ := h
        exact cat_ne ne h (ne _ _ _ _ _ h1)
      case cond v p q =>
        rw [ob_some] at h
        obtain ⟨u, _, h⟩ := h
        split at h
        · exact ne _ _ _ _ _ h
        · exact ne _ _ _ _ _ h
        · cases h
      case block id b =>
        rw [ob_some] at h
        obtain ⟨rs1, h1, h⟩ := h
        have := ne _ _ _ _ _ h1
        cases h
        intro e
        exact this (List.map_eq_nil_iff.1 e)
      case loop b =>
        rw [ob_some] at h
        obtain ⟨rs1, h1, h⟩ := h
        exact cat_ne ne h (ne _ _ _ _ _ h1)
    have loop' : LoopOk P (n + 1) (run pol (planOf pol) P (n + 1)) := by
      intro nt b T S rs h E a w ht hr pr fresh hd
      rw [run_succ] at h
      simp only [runF] at h
      rw [ob_some] at h
      obtain ⟨rs1, h1, h⟩ := h
      rw [rounds_succ]
      refine wp_mono (ih _ _ _ _ _ h1 E a w ht hr pr (cat_fresh mono h fresh ne) hd) ?_
      rintro e a1 w1 ⟨⟨y, T1, S1⟩, hy, E1, hxr, ht1, hd1, tr1⟩
      rcases cat_split h hy with ⟨hy0, q, hq, hall⟩ | ⟨hy0, hin⟩
      · simp only at hy0
        subst hy0
        simp only [XR] at hxr
        subst hxr
        show Code.rounds P b _ n a1 w1
        refine rounds_mono ?_ n a1 w1 (ihl _ _ _ _ _ hq E1 a1 w1 ht1 tr1.hr tr1.pr (fun r hr => tran_fresh tr1 (fresh r (hall r hr))) hd1)
        rintro e a2 w2 ⟨r2, hr2, E2, hx2, ht2, hd2, tr2⟩
        exact ⟨r2, hall r2 hr2, E2, hx2, ht2, hd2, tr1.trans tr2⟩
      · cases y with
        | n => exact absurd rfl hy0
        | e id => simp only [XR] at hxr; subst hxr; exact ⟨_, hin, E1, rfl, ht1, hd1, tr1⟩
        | r => simp only [XR] at hxr; subst hxr; exact ⟨_, hin, E1, rfl, ht1, hd1, tr1⟩
    refine ⟨?_, mono', ne', loop'⟩
    intro nt c T S rs h E a w ht hr pr fresh hd
    have h0 := h
    rw [run_succ] at h
    cases c <;> simp only [runF, reduceCtorEq] at h
    case skip => cases h; exact wp_skip ⟨(X.n, T, S), List.mem_singleton.2 rfl, E, rfl, ht, hd, Tran.refl _ hr pr⟩
    case exit id => cases h; exact wp_exit ⟨(X.e id, T, S), List.mem_singleton.2 rfl, E, rfl, ht, hd, Tran.refl _ hr pr⟩
    case ret => cases h; exact wp_ret ⟨(X.r, T, S), List.mem_singleton.2 rfl, E, rfl, ht, hd, Tran.refl _ hr pr⟩
    case region id ops d =>
      cases d
      · simp only [cond_false] at h
        exact wp_region (reg_ok hs h ht hr pr fresh hd (fun T' S' hm E' a' w' h2 h3 h4 => ⟨_, hm, E', rfl, h2, h3, h4⟩))
      · simp only [cond_true] at h
        split at h
        · rename_i p hp
          simp only [o2_eq, on3_eq, ob_some, Option.some.injEq] at h
          obtain ⟨⟨T1, S1⟩, h1, rfl⟩ := h
          exact draw_ok hmix hx hs hp h1 ht hr pr (fresh (X.n, T1, S1) (List.mem_singleton.2 rfl)) hd (fun E' a' w' h2 h3 h4 => ⟨(X.n, T1, S1), List.mem_singleton.2 rfl, E', rfl, h2, h3, h4⟩) id
        · cases h
    case seq p q =>
      rw [ob_some] at h
      obtain ⟨rs1, h1, h⟩ := h
      refine wp_seq (wp_mono (ih _ _ _ _ _ h1 E a w ht hr pr (cat_fresh mono h fresh ne) hd) ?_)
      rintro e a1 w1 ⟨⟨y, T1, S1⟩, hy, E1, hxr, ht1, hd1, tr1⟩
      rcases cat_split h hy with ⟨hy0, q', hq, hall⟩ | ⟨hy0, hin⟩
      · simp only at hy0
        subst hy0
        simp only [XR] at hxr
        subst hxr
        show q.wp P _ a1 w1
        refine wp_mono (ih _ _ _ _ _ hq E1 a1 w1 ht1 tr1.hr tr1.pr (fun r hr => tran_fresh tr1 (fresh r (hall r hr))) hd1) ?_
        rintro e a2 w2 ⟨r2, hr2, E2, hx2, ht2, hd2, tr2⟩
        exact ⟨r2, hall r2 hr2, E2, hx2, ht2, hd2, tr1.trans tr2⟩
      · cases y with
        | n => exact absurd rfl hy0
        | e id => simp only [XR] at hxr; subst hxr; exact ⟨_, hin, E1, rfl, ht1, hd1, tr1⟩
        | r => simp only [XR] at hxr; subst hxr; exact ⟨_, hin, E1, rfl, ht1, hd1, tr1⟩
    case cond v p q =>
      rw [ob_some] at h
      obtain ⟨u, hu, h⟩ := h
      have hv := ev_rel ht pr hu
      split at h
      · simp only [VR] at hv
        exact wp_cond_true hv (ih _ _ _ _ _ h E a w ht hr pr fresh hd)
      · simp only [VR] at hv
        exact wp_cond_false hv (ih _ _ _ _ _ h E a w ht hr pr fresh hd)
      · cases h
    case block id b =>
      rw [ob_some] at h
      obtain ⟨rs1, h1, h⟩ := h
      simp only [Option.some.injEq] at h
      subst h
      have hmem : ∀ r1 ∈ rs1, (match r1.1 with
        | .e i => bif i.beq id then (X.n, r1.2.1, r1.2.2) else (X.e i, r1.2.1, r1.2.2)
        | x => (x, r1.2.1, r1.2.2)) ∈ rs1.map fun r => match r.1 with
        | .e i => bif i.beq id then (X.n, r.2.1, r.2.2) else (X.e i, r.2.1, r.2.2)
        | x => (x, r.2.1, r.2.2) := fun r1 hr1 => List.mem_map.2 ⟨r1, hr1, rfl⟩
      refine wp_block (wp_mono (ih _ _ _ _ _ h1 E a w ht hr pr (fun r1 hr1 k hk hlt => fresh _ (hmem r1 hr1) k hk ?_) hd) ?_)
      · obtain ⟨x, T1, S1⟩ := r1
        cases x with
        | n => exact hlt
        | r => exact hlt
        | e i => simp only; cases i.beq id <;> exact hlt
      rintro e a1 w1 ⟨⟨y, T1, S1⟩, hy, E1, hxr, ht1, hd1, tr1⟩
      have hm := hmem _ hy
      cases y with
      | n => simp only [XR] at hxr; subst hxr; exact ⟨_, hm, E1, rfl, ht1, hd1, tr1⟩
      | r => simp only [XR] at hxr; subst hxr; exact ⟨_, hm, E1, rfl, ht1, hd1, tr1⟩
      | e i =>
        simp only [XR] at hxr
        subst hxr
        simp only at hm
        by_cases e : i = id
        · subst e
          rw [Nat.beq_refl, cond_true] at hm
          simp only [Exit.inBlock, if_true]
          exact ⟨_, hm, E1, rfl, ht1, hd1, tr1⟩
        · rw [nbeq_false e, cond_false] at hm
          simp only [Exit.inBlock, if_neg e]
          exact ⟨_, hm, E1, rfl, ht1, hd1, tr1⟩
    case loop b =>
      exact wp_loop_rounds (n + 1) (loop' _ _ _ _ _ h0 E a w ht hr pr fresh hd)

end
end Go.Eng
