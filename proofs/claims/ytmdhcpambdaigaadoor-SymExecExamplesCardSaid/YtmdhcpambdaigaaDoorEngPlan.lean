/-
  What the engine does in a region that draws its order is a chain.
-/
import Derived.Test.YtmdhcpambdaigaaDoorEngChain
namespace Go.Eng
set_option linter.unusedSectionVars false
variable [Gl]

theorem back_get (old h : Tr AB) : ∀ (ns : List Nat) (n : Nat), (back old h ns).get n = if n ∈ ns then old.get n else h.get n
  | [], n => by simp [back]
  | m :: ns, n => by
    show Tr.getP (pathOf n) ((back old h ns).setP (old.get m) (pathOf m)) = _
    rw [Tr.getP_setP]
    by_cases e : n = m
    · subst e; simp
    · rw [if_neg (fun h => e (pathOf_inj h))]
      have := back_get old h ns n
      unfold Tr.get at this
      rw [this]
      simp [e, Tr.get]

theorem dels_get (h : Tr AB) : ∀ (ns : List Nat) (n : Nat), (dels h ns).get n = if n ∈ ns then none else h.get n
  | [], n => by simp [dels]
  | m :: ns, n => by
    simp only [dels, Tr.get_del, dels_get h ns n, List.mem_cons]
    by_cases e : n = m <;> simp [e]

theorem restrict_get (h : Tr AB) : ∀ (ns : List Nat) (n : Nat), (restrict h ns).get n = if n ∈ ns then h.get n else none
  | [], n => by simp [restrict]
  | m :: ns, n => by
    unfold restrict
    split
    · rename_i b hb
      rw [Tr.get_put, restrict_get h ns n]
      by_cases e : n = m
      · subst e; simp [hb]
      · simp [e]
    · rename_i hb
      rw [restrict_get h ns n]
      by_cases e : n = m
      · subst e; simp [hb]
      · simp [e]

section
variable {P : Program} {ops : Array Oper} {pol : FuncId → Bool} {rec : RunT}

/-- a reading operation leaves memory alone -/
theorem read_same {o : Op} {T : Tm} {S S' : St} {v : AV} (hc : cls o = .read) (h : (aOp pol P o).f rec T S = some (v, S')) : S' = S := by
  cases o <;> simp only [cls, reduceCtorEq] at hc
  case load t p =>
    simp only [aOp] at h
    split at h
    · simp only [ob_some, Option.some.injEq, Prod.mk.injEq] at h
      obtain ⟨_, _, _, _, _, rfl⟩ := h; rfl
    · cases h
  case convert s d x =>
    simp only [aOp, ob_some, Option.some.injEq, Prod.mk.injEq] at h
    obtain ⟨_, _, _, _, _, rfl⟩ := h; rfl
  case lookup t x i ok =>
    simp only [aOp, ob_some, Option.some.injEq, Prod.mk.injEq] at h
    obtain ⟨_, _, _, _, _, _, _, rfl⟩ := h; rfl
  case call c =>
    split at hc
    · rename_i hcal
      simp only [aOp] at h
      split at h
      · rename_i b hcal'
        rw [hcal] at hcal'
        cases hcal'
        simp only [ob_some] at h
        obtain ⟨args, _, h⟩ := h
        unfold builtinA at h
        split at h
        · simp only [ob_some, Option.some.injEq, Prod.mk.injEq] at h
          obtain ⟨_, _, _, rfl⟩ := h; rfl
        all_goals first | (cases h; done) | contradiction
      · rename_i hcal'; rw [hcal] at hcal'; cases hcal'
      · cases h
    · cases hc
    · cases hc
    · cases hc

theorem wants_of {nt : Nat} {o : Oper} {T : Tm} {b : Bool} (h : wantA ops.toList T o = some b) (E : Gh) (a : Act) (hs : SR E (o.looksAt ops) T.get a) : Region.wanted o (yielded ops a.tmps) = b := by
  have _ := nt
  unfold wantA at h
  unfold Region.wanted
  split at h
  · rename_i hg; rw [hg]; cases h; rfl
  · rename_i j wnt hg
    rw [hg]
    simp only
    unfold yielded
    have e : (ops[j]?).bind (·.dst) = (ops.toList[j]?).ob (·.dst) := by rw [ob_eq]; simp
    split at h
    · rename_i hd
      rw [e, hd]; cases h; rfl
    · rename_i d hd
      rw [ob_some] at h
      obtain ⟨x, hx, h⟩ := h
      have hmem : d ∈ o.looksAt ops := by
        unfold Oper.looksAt
        refine List.mem_append_right _ ?_
        simp only [hg]
        rw [e, hd]; simp
      obtain ⟨u, hu, hxu⟩ := hs d hmem x hx
      rw [e, hd]
      simp only [Option.bind_some, hu]
      cases x <;> simp only [VR] at hxu
      case bool c => subst hxu; cases h; cases c <;> cases wnt <;> rfl
      all_goals
        cases h
        first
          | (subst hxu; rfl)
          | (obtain ⟨_, rfl⟩ := hxu; rfl)
          | (obtain ⟨_, rfl, _⟩ := hxu; rfl)
          | (obtain ⟨_, _, rfl, _⟩ := hxu; rfl)
          | (obtain ⟨_, _, _, rfl, _⟩ := hxu; rfl)

theorem operands_of {o : Oper} {T : Tm} {E : Gh} {a : Act} {w : World} (hs : SR E (o.looksAt ops) T.get a) (pr : PR E w) : ∀ x ∈ o.op.operands.toList, ∀ u, ev T x = some u → VR E u (a.eval x) := by
  intro x hx u hu
  unfold ev at hu
  split at hu
  · rename_i t
    have hmem : t ∈ o.looksAt ops := by
      unfold Oper.looksAt
      exact List.mem_append_left _ (List.mem_filterMap.2 ⟨.tmp t, hx, rfl⟩)
    obtain ⟨z, hz, hr⟩ := hs t hmem u hu
    simpa [Act.eval, Array.getD_eq_getD_getElem?, hz] using hr
  · exact cv_rel E hu
  · exact pr.gl _ _ hu
  · cases hu
    simp only [VR, Act.eval]
    exact ⟨#[], #[], rfl, ⟨VRP.nil, rfl⟩, VRP.nil, rfl⟩

theorem put_of {nt : Nat} {T T1 : Tm} {dst : Option Tmp} {v : AV} (h : putA nt T dst v = some T1) : (∀ d, dst = some d → d < nt) ∧ ∀ t, T1.get t = if dst = some t then some v else T.get t := by
  unfold putA at h
  split at h
  · cases h; exact ⟨(fun d hd => by cases hd), (fun t => by simp)⟩
  · rename_i d
    simp only [ob_some, chk_some, nblt_iff, Option.some.injEq] at h
    obtain ⟨_, hd, rfl⟩ := h
    refine ⟨fun d' hd' => by cases hd'; exact hd, fun t => ?_⟩
    rw [Tr.get_put]
    by_cases e : t = d
    · subst e; simp
    · rw [if_neg e, if_neg (by simpa using Ne.symm e)]

inductive Kind (e : Ent) (hide : List Nat) (log : List (Nat × List Nat)) (nms : List Nat) : Prop where
  | none : (∀ n, ¬ touch e n) → Kind e hide log nms
  | read : cls e.o.op = .read → (∀ n, e.R n = e.R' n) → (∀ n, touch e n → n ∈ nms) → (∀ n ∈ nms, n ∉ logged log hide) → Kind e hide log nms
  | alloc : cls e.o.op = .alloc → (∀ n, touch e n → n = e.x) → nms = [e.x] → (∀ q ∈ log, e.x ∉ q.2) → Kind e hide log nms
  | write : cls e.o.op = .write → (∀ n, touch e n → n ∉ logged log hide) → Kind e hide log nms

structure EX where
  e : Ent
  hide : List Nat
  log : List (Nat × List Nat)
  nms : List Nat

theorem mem_logged {log : List (Nat × List Nat)} {hide : List Nat} {c n : Nat} {ns : List Nat} (h : (c, ns) ∈ log) (hc : c ∈ hide) (hn : n ∈ ns) : n ∈ logged log hide := by
  unfold logged
  rw [List.mem_flatMap]
  exact ⟨(c, ns), List.mem_filter.2 ⟨h, by simpa using hc⟩, hn⟩

/-- two operations of a plan that no edge orders do not disturb each other -/
theorem indep_of {bs : List Nat} {c e : EX} (hc : ops[c.e.i]? = some c.e.o) (he : ops[e.e.i]? = some e.e.o) (kc : Kind c.e c.hide c.log c.nms) (ke : Kind e.e e.hide e.log e.nms)
    (hlog : (∃ n, touch c.e n) → cls c.e.o.op ≠ .write → (c.e.i, c.nms) ∈ e.log) (hp : pairOk ops.toList bs c.e.i e.e.i e.hide = true) (hb : (bs.getD e.e.i 0).testBit c.e.i = false) : Indep ops c.e e.e := by
  unfold pairOk at hp
  rw [hb, Bool.false_or] at hp
  have h1 : ops.toList[c.e.i]? = some c.e.o := by simpa using hc
  have h2 : ops.toList[e.e.i]? = some e.e.o := by simpa using he
  rw [h1, h2] at hp
  simp only [Bool.and_eq_true, Bool.or_eq_true, Bool.not_eq_true', List.contains_iff_mem] at hp
  obtain ⟨⟨⟨hap, hnw⟩, hw⟩, hra⟩ := hp
  refine ⟨by simpa using hap, fun n tc te => ?_⟩
  have hl := hlog ⟨n, tc⟩ (fun hcw => by simp [isWr, hcw] at hnw)
  cases kc with
  | none h => exact absurd tc (h n)
  | write h => simp [isWr, h] at hnw
  | read hk hr hn _ =>
    cases ke with
    | none h => exact absurd te (h n)
    | read hk' hr' _ _ => exact ⟨hr n, hr' n⟩
    | alloc hk' hx hnm hall => exact absurd (hx n te ▸ hn n tc) (hall _ hl)
    | write hk' hx =>
      have : c.e.i ∈ e.hide := by
        rcases hw with h | h
        · simp [isWr, hk'] at h
        · exact h
      exact absurd (mem_logged hl this (hn n tc)) (hx n te)
  | alloc hk hx hnm _ =>
    have hn : n ∈ c.nms := by rw [hnm, hx n tc]; simp
    cases ke with
    | none h => exact absurd te (h n)
    | read hk' hr' hn' hno =>
      have : c.e.i ∈ e.hide := by
        rcases hra with h | h
        · simp [isRd, isAl, hk, hk'] at h
        · exact h
      exact absurd (mem_logged hl this hn) (hno n (hn' n te))
    | alloc hk' hx' hnm' hall => exact absurd (hx' n te ▸ hn) (hall _ hl)
    | write hk' hx' =>
      have : c.e.i ∈ e.hide := by
        rcases hw with h | h
        · simp [isWr, hk'] at h
        · exact h
      exact absurd (mem_logged hl this hn) (hx' n te)

def PC (P : Program) (ops : Array Oper) (nt : Nat) (l : List PS) (log : List (Nat × List Nat)) (T : Tm) (S : St) (T' : Tm) (S' : St) : Prop :=
    ∃ L : List EX, Chain ops (L.map (·.e)) T.get S.heap.get T'.get S'.heap.get ∧ L.map (fun x => (x.e.i, x.hide)) = l.map (fun p => (p.i, p.hide)) ∧ (∀ x ∈ L, EntOk P ops nt x.e) ∧ (∀ x ∈ L, Kind x.e x.hide x.log x.nms) ∧
      (∀ x ∈ L, S.next ≤ x.e.x ∧ x.e.y ≤ S'.next) ∧ (∀ x ∈ L, ∀ q ∈ log, q ∈ x.log) ∧ L.Pairwise (fun c e => c.e.y ≤ e.e.x ∧ ((∃ n, touch c.e n) → cls c.e.o.op ≠ .write → (c.e.i, c.nms) ∈ e.log)) ∧ S.next ≤ S'.next

/-- the chain of a plan -/
theorem plan_chain (hs : StepOk P pol rec) {nt : Nat} {T' : Tm} {S' : St} : ∀ {l : List PS} {log : List (Nat × List Nat)} {T : Tm} {S : St}, (planA pol P ops.toList l).f rec nt log T S = some (T', S') →
    PC P ops nt l log T S T' S'
  | [], log, T, S, h => by
    simp only [planA, Option.some.injEq, Prod.mk.injEq] at h
    obtain ⟨rfl, rfl⟩ := h
    exact ⟨[], ⟨rfl, rfl⟩, rfl, by simp, by simp, by simp, by simp, List.Pairwise.nil, Nat.le_refl _⟩
  | p :: l, log, T, S, h => by
    -- one entry in front of the rest
    have step : ∀ (e : Ent) (nms : List Nat) (log1 : List (Nat × List Nat)) (T1 : Tm) (S1 : St), (planA pol P ops.toList l).f rec nt log1 T1 S1 = some (T', S') → e.i = p.i → e.T = T.get → EntOk P ops nt e → Kind e p.hide log nms →
        S.next ≤ e.x → e.y ≤ S1.next → (∀ q ∈ log, q ∈ log1) → ((∃ n, touch e n) → cls e.o.op ≠ .write → (e.i, nms) ∈ log1) → (∀ n b, e.R n = some b → S.heap.get n = some b) → updT T.get e = T1.get → merge S.heap.get e.R e.R' = S1.heap.get → 
        PC P ops nt (p :: l) log T S T' S' := by
      intro e nms log1 T1 S1 hrest hi hT hok hk hx hy hlog hmem hsub hut hm
      obtain ⟨L, c1, c2, c3, c4, c5, c6, c7, c8⟩ := plan_chain hs hrest
      have hle := hok.le
      refine ⟨⟨e, p.hide, log, nms⟩ :: L, ⟨fun t _ => by rw [hT], hsub, by rw [hut, hm]; exact c1⟩, by simp [c2, hi], ?_, ?_, ?_, ?_, ?_, by omega⟩
      · intro x hx'
        rcases List.mem_cons.1 hx' with rfl | hx'
        · exact hok
        · exact c3 x hx'
      · intro x hx'
        rcases List.mem_cons.1 hx' with rfl | hx'
        · exact hk
        · exact c4 x hx'
      · intro x hx'
        rcases List.mem_cons.1 hx' with rfl | hx'
        · exact ⟨hx, by simp only; omega⟩
        · have := c5 x hx'; omega
      · intro x hx' q hq
        rcases List.mem_cons.1 hx' with rfl | hx'
        · exact hq
        · exact c6 x hx' q (hlog q hq)
      · refine List.pairwise_cons.2 ⟨fun x hx' => ⟨?_, fun ht hw => c6 x hx' _ (hmem ht hw)⟩, c7⟩
        have := c5 x hx'
        simp only; omega
    have none_touch : ∀ (i : Nat) (o : Oper) (T : Nat → Option AV) (b : Bool) (x y : Nat) (v : AV), ∀ n, ¬ touch ⟨i, o, T, b, fun _ => none, fun _ => none, x, y, v⟩ n := by
      intro i o T b x y v n ht
      rcases ht with h | h <;> simp at h
    have none_merge : ∀ K : Nat → Option AB, merge K (fun _ => none) (fun _ => none) = K := by
      intro K; funext n; rw [merge_not (by simp)]
    have upd : ∀ (o : Oper) (v : AV) (T1 : Tm), putA nt T o.dst v = some T1 → ∀ (i : Nat) (Tf : Nat → Option AV) (b : Bool) (R R' : Nat → Option AB) (x y : Nat), updT T.get ⟨i, o, Tf, b, R, R', x, y, v⟩ = T1.get := by
      intro o v T1 hput i Tf b R R' x y
      funext t
      rw [(put_of hput).2 t]; rfl
    -- an operation that is not wanted
    have unwanted : ∀ o, ops[p.i]? = some o → wantA ops.toList T o = some false → ∀ T1, putA nt T o.dst (.tup []) = some T1 → (planA pol P ops.toList l).f rec nt log T1 S = some (T', S') → PC P ops nt (p :: l) log T S T' S' := by
      intro o ho hw T1 hput hrest
      exact step ⟨p.i, o, T.get, false, fun _ => none, fun _ => none, S.next, S.next, .tup []⟩ [] log T1 S hrest rfl rfl
        ⟨ho, (put_of hput).1, Nat.le_refl _, fun E a hsr => wants_of (nt := nt) hw E a hsr, fun _ => ⟨rfl, fun _ => rfl, fun _ => rfl⟩, fun h => by cases h⟩
        (.none (none_touch _ _ _ _ _ _ _)) (Nat.le_refl _) (Nat.le_refl _) (fun q hq => hq) (fun ⟨n, hn⟩ => absurd hn (none_touch _ _ _ _ _ _ _ n)) (fun n b hb => by cases hb) (upd _ _ _ hput _ _ _ _ _ _ _) (none_merge _)
    unfold planA at h
    split at h
    · cases h
    · rename_i o ho
      have ho' : ops[p.i]? = some o := by simpa using ho
      split at h
      · -- pure
        simp only at h
        rw [ob_some] at h
        obtain ⟨b, hb, h⟩ := h
        cases b
        · rw [bc_false, ob_some] at h
          obtain ⟨T1, hput, h⟩ := h
          exact unwanted o ho' hb T1 hput h
        · rw [bc_true] at h
          simp only [ob_some, chk_some, nbeq_iff] at h
          obtain ⟨⟨v, S1⟩, h1, _, hnx, T1, hput, h⟩ := h
          refine step ⟨p.i, o, T.get, true, fun _ => none, fun _ => none, S.next, S.next, v⟩ [] log T1 S h rfl rfl ⟨ho', (put_of hput).1, Nat.le_refl _, fun E a hsr => wants_of (nt := nt) hb E a hsr, (fun h => by cases h), ?_⟩
            (.none (none_touch _ _ _ _ _ _ _)) (Nat.le_refl _) (Nat.le_refl _) (fun q hq => hq) (fun ⟨n, hn⟩ => absurd hn (none_touch _ _ _ _ _ _ _ n)) (fun n b hb => by cases hb) (upd _ _ _ hput _ _ _ _ _ _ _) (none_merge _)
          intro _ E a w hsr hr pr hfr next Q hn
          simp only at hnx
          refine hs h1 (operands_of hsr pr) (HR.empty E w) pr (fun n a b => by simp only at a b; omega) ?_
          intro v' w' E' hv tr
          refine hn v' w' E' hv ?_
          have := tr.forget (h'' := fun _ => none) (fun n b hb => by cases hb)
          have e : (Tr.lf : Tr AB).get = fun _ => none := by funext n; simp
          simp only [hnx, e] at this
          exact this
      · -- read
        simp only at h
        rename_i hcls
        rw [ob_some] at h
        obtain ⟨b, hb, h⟩ := h
        cases b
        · rw [bc_false, ob_some] at h
          obtain ⟨T1, hput, h⟩ := h
          exact unwanted o ho' hb T1 hput h
        · rw [bc_true] at h
          simp only [ob_some, chk_some, nbeq_iff] at h
          obtain ⟨_, hfoot, ⟨v, S1⟩, h1, _, hnx, T1, hput, h⟩ := h
          have hS1 := read_same hcls h1
          subst hS1
          have hsub : ∀ n b, (restrict S.heap (foot T o.op)).get n = some b → S.heap.get n = some b := by
            intro n b hb
            rw [restrict_get] at hb
            split at hb
            · exact hb
            · cases hb
          refine step ⟨p.i, o, T.get, true, (restrict S.heap (foot T o.op)).get, (restrict S.heap (foot T o.op)).get, S.next, S.next, v⟩ (foot T o.op) ((p.i, foot T o.op) :: log) T1 S h rfl rfl
            ⟨ho', (put_of hput).1, Nat.le_refl _, fun E a hsr => wants_of (nt := nt) hb E a hsr, (fun h => by cases h), ?_⟩ (.read hcls (fun _ => rfl) ?_ ?_) (Nat.le_refl _) (Nat.le_refl _) (fun q hq => by simp [hq]) (fun _ _ => by simp) hsub (upd _ _ _ hput _ _ _ _ _ _ _) ?_
          · intro _ E a w hsr hr pr hfr next Q hn
            exact hs h1 (operands_of hsr pr) hr pr (fun n a b => by simp only at a b; omega) fun v' w' E' hv tr => hn v' w' E' hv tr
          · intro n ht
            have : (restrict S.heap (foot T o.op)).get n ≠ none := by
              rcases ht with h | h <;> (intro e; simp only [e] at h; cases h)
            rw [restrict_get] at this
            by_cases hm : n ∈ foot T o.op
            · exact hm
            · rw [if_neg hm] at this; exact absurd rfl this
          · intro n hn hl
            simp only [List.all_eq_true, Bool.not_eq_true'] at hfoot
            have := hfoot n hn
            simp [hl] at this
          · funext n
            by_cases ht : ((restrict S.heap (foot T o.op)).get n).isSome = true ∨ ((restrict S.heap (foot T o.op)).get n).isSome = true
            · rw [merge_touch ht]
              obtain ⟨b, hb⟩ := Option.isSome_iff_exists.1 (ht.elim id id)
              rw [hb, hsub n b hb]
            · rw [merge_not ht]
      · -- alloc
        simp only at h
        rename_i hcls
        rw [ob_some] at h
        obtain ⟨b, hb, h⟩ := h
        cases b
        · rw [bc_false, ob_some] at h
          obtain ⟨T1, hput, h⟩ := h
          exact unwanted o ho' hb T1 hput h
        · rw [bc_true] at h
          simp only [ob_some, chk_some, nbeq_iff] at h
          obtain ⟨_, hall, ⟨v, S1⟩, h1, _, hnx, blk, hblk, T1, hput, h⟩ := h
          refine step ⟨p.i, o, T.get, true, fun _ => none, fun n => if n = S.next then some blk else none, S.next, S.next + 1, v⟩ [S.next] ((p.i, [S.next]) :: log) T1 ⟨S.heap.put S.next blk, S.next + 1⟩ h rfl rfl
            ⟨ho', (put_of hput).1, Nat.le_succ _, fun E a hsr => wants_of (nt := nt) hb E a hsr, (fun h => by cases h), ?_⟩ (.alloc hcls ?_ rfl ?_) (Nat.le_refl _) (Nat.le_refl _) (fun q hq => by simp [hq]) (fun _ _ => by simp) (fun n b hb => by cases hb) (upd _ _ _ hput _ _ _ _ _ _ _) ?_
          · intro _ E a w hsr hr pr hfr next Q hn
            simp only at hnx
            refine hs h1 (operands_of hsr pr) (HR.empty E w) pr (fun n a b => hfr n a (by simp only at b ⊢; omega)) ?_
            intro v' w' E' hv tr
            refine hn v' w' E' hv ?_
            have := tr.forget (h'' := fun n => if n = S.next then some blk else none) (fun n b hb => by
              by_cases e : n = S.next
              · subst e; rw [if_pos rfl] at hb; cases hb; exact hblk
              · rw [if_neg e] at hb; cases hb)
            have e : (Tr.lf : Tr AB).get = fun _ => none := by funext n; simp
            simp only [hnx, e] at this
            exact this
          · intro n ht
            rcases ht with h | h
            · simp at h
            · simp only at h
              by_cases e : n = S.next
              · exact e
              · rw [if_neg e] at h; cases h
          · intro q hq
            simp only [List.all_eq_true, Bool.not_eq_true'] at hall
            have := hall q hq
            simpa using this
          · funext n
            simp only [Tr.get_put]
            by_cases e : n = S.next
            · subst e
              rw [merge_touch (by simp)]; simp
            · rw [merge_not (by simp [e]), if_neg e]
      · -- write
        simp only at h
        rename_i hcls
        rw [ob_some] at h
        obtain ⟨b, hb, h⟩ := h
        cases b
        · rw [bc_false, ob_some] at h
          obtain ⟨T1, hput, h⟩ := h
          exact unwanted o ho' hb T1 hput h
        · rw [bc_true] at h
          simp only [ob_some, chk_some, nble_iff] at h
          obtain ⟨⟨v, S1⟩, h1, _, hnx, T1, hput, h⟩ := h
          refine step ⟨p.i, o, T.get, true, (dels S.heap (logged log p.hide)).get, fun n => if n ∈ logged log p.hide then none else S1.heap.get n, S.next, S1.next, v⟩ [] log T1 ⟨back S.heap S1.heap (logged log p.hide), S1.next⟩ h rfl rfl
            ⟨ho', (put_of hput).1, hnx, fun E a hsr => wants_of (nt := nt) hb E a hsr, (fun h => by cases h), ?_⟩ (.write hcls ?_) (Nat.le_refl _) (Nat.le_refl _) (fun q hq => hq) (fun _ hw => absurd hcls hw) ?_ (upd _ _ _ hput _ _ _ _ _ _ _) ?_
          · intro _ E a w hsr hr pr hfr next Q hn
            refine hs h1 (operands_of hsr pr) hr pr hfr ?_
            intro v' w' E' hv tr
            refine hn v' w' E' hv (tr.forget fun n b hb => ?_)
            have hb : (if n ∈ logged log p.hide then none else S1.heap.get n) = some b := hb
            by_cases e : n ∈ logged log p.hide
            · rw [if_pos e] at hb; cases hb
            · rw [if_neg e] at hb; exact hb
          · intro n ht hl
            rcases ht with h | h
            · simp only [dels_get, if_pos hl] at h; cases h
            · simp only [if_pos hl] at h; cases h
          · intro n b hb
            simp only [dels_get] at hb
            split at hb
            · cases hb
            · exact hb
          · funext n
            simp only [back_get]
            by_cases hl : n ∈ logged log p.hide
            · rw [merge_not (by simp [dels_get, hl]), if_pos hl]
            · rw [if_neg hl]
              by_cases ht : ((dels S.heap (logged log p.hide)).get n).isSome = true ∨ ((if n ∈ logged log p.hide then none else S1.heap.get n : Option AB)).isSome = true
              · rw [merge_touch ht, if_neg hl]
              · rw [merge_not ht]
                simp only [dels_get, if_neg hl, not_or, Bool.not_eq_true, Option.isSome_eq_false_iff, Option.isNone_iff_eq_none] at ht
                rw [ht.1, ht.2]

end
end Go.Eng
