/-
  What the engine does in a region that draws its order is a chain.
-/
import Derived.Test.YtjkdpgkpghcfbaaGreatDoorEngLoc
set_option linter.unusedSimpArgs false
set_option linter.unusedVariables false
namespace Go.Eng
set_option linter.unusedSectionVars false
variable [Gl] [Mx]
section
variable {P : Program} {ops : Array Oper} {pol : FuncId → Bool} {rec : RunT}

theorem wants_of {nt : Nat} {o : Oper} {T : Tm} {b : Bool} (h : wantA ops.toList T o = some b) (E : Gh) (a : Act) (hs : SR E (o.looksAt ops) T.get a) : Region.wanted o (yielded ops a.tmps) = b := by
  have _ := nt
  unfold wantA at h
  unfold Region.wanted
  split at h
  · rename_i hg; rw [hg]; cases h; rfl
  · rename_i j wnt hg
    rw [hg]
    simp only
    unfold yielded
    have e : (ops[j]?).bind (·.dst) = (ops.toList[j]?).ob (·.dst) := by rw [ob_eq]; simp
    split at h
    · rename_i hd
      rw [e, hd]; cases h; rfl
    · rename_i d hd
      rw [ob_some] at h
      obtain ⟨x, hx, h⟩ := h
      have hmem : d ∈ o.looksAt ops := by
        unfold Oper.looksAt
        refine List.mem_append_right _ ?_
        simp only [hg]
        rw [e, hd]; simp
      obtain ⟨u, hu, hxu⟩ := hs d hmem x hx
      rw [e, hd]
      simp only [Option.bind_some, hu]
      cases x <;> simp only [VR] at hxu
      case bool c => subst hxu; cases h; cases c <;> cases wnt <;> rfl
      all_goals
        cases h
        first
          | (subst hxu; rfl)
          | (rcases hxu with ⟨_, _, _, _, rfl, _⟩ | ⟨_, _, rfl⟩ <;> rfl)
          | (obtain ⟨_, rfl⟩ := hxu; rfl)
          | (obtain ⟨_, rfl, _⟩ := hxu; rfl)
          | (obtain ⟨_, _, rfl, _⟩ := hxu; rfl)
          | (obtain ⟨_, _, _, rfl, _⟩ := hxu; rfl)

theorem operands_of {o : Oper} {T : Tm} {E : Gh} {a : Act} {w : World} (hs : SR E (o.looksAt ops) T.get a) (pr : PR E w) : ∀ x ∈ o.op.operands.toList, ∀ u, ev T x = some u → VR E u (a.eval x) := by
  intro x hx u hu
  unfold ev at hu
  split at hu
  · rename_i t
    have hmem : t ∈ o.looksAt ops := by
      unfold Oper.looksAt
      exact List.mem_append_left _ (List.mem_filterMap.2 ⟨.tmp t, hx, rfl⟩)
    obtain ⟨z, hz, hr⟩ := hs t hmem u hu
    simpa [Act.eval, Array.getD_eq_getD_getElem?, hz] using hr
  · exact cv_rel E hu
  · exact VR.mono (Ext.ofIce E) _ _ (pr.gl _ _ hu)
  · cases hu
    simp only [VR, Act.eval]
    exact ⟨#[], #[], rfl, ⟨VRP.nil, rfl⟩, VRP.nil, rfl⟩

theorem put_of {nt : Nat} {T T1 : Tm} {dst : Option Tmp} {v : AV} (h : putA nt T dst v = some T1) : (∀ d, dst = some d → d < nt) ∧ ∀ t, T1.get t = if dst = some t then some v else T.get t := by
  unfold putA at h
  split at h
  · cases h; exact ⟨(fun d hd => by cases hd), (fun t => by simp)⟩
  · rename_i d
    simp only [o2_eq, on3_eq, ob_some, chk_some, nblt_iff, Option.some.injEq] at h
    obtain ⟨_, hd, rfl⟩ := h
    refine ⟨fun d' hd' => by cases hd'; exact hd, fun t => ?_⟩
    rw [Tr.get_put]
    by_cases e : t = d
    · subst e; simp
    · rw [if_neg e, if_neg (by simpa using Ne.symm e)]

/-- what a reading operation asks of memory -/
def ReadPre (P : Program) (pol : FuncId → Bool) (rec : RunT) (o : Op) (T : Tm) (v : AV) (m : Nat) (K : Nat → Option AB) : Prop :=
  ∃ H : Tr AB, (∀ n, H.get n = if n ∈ foot T o then K n else none) ∧ (aOp pol P o).f rec T ⟨H, m⟩ = some (v, ⟨H, m⟩)

inductive Kind (P : Program) (pol : FuncId → Bool) (rec : RunT) (e : Ent) (c : Cls) (hide : List Nat) (lg : Bool) (log log1 : List LE) : Prop where
  | none : (∀ n, ¬ touch e n) → (∀ K, e.pre K) → Kind P pol rec e c hide lg log log1
  | read (T : Tm) (m : Nat) : c = .read → cls pol e.o.op = .read → (∀ n, ¬ touch e n) → (∀ K, e.pre K ↔ ReadPre P pol rec e.o.op T e.v m K) → (∀ n ∈ foot T e.o.op, n ∉ logged log hide) →
      (lg = true → ⟨e.i, foot T e.o.op, some (reOf P e.o.op T (foot T e.o.op) m e.v)⟩ ∈ log1) → Kind P pol rec e c hide lg log log1
  | blk (ns : List Nat) : (c = .alloc ∨ c = .loc) → (∀ K, e.pre K) → (∀ n, touch e n → n ∈ ns) → (c = .alloc → ∀ n ∈ ns, n < e.y) → (∀ n ∈ ns, e.x ≤ n ∨ (c = .loc ∧ n ∉ logged log hide)) → (∀ q ∈ log, q.i ∈ hide → ∀ n ∈ q.ns, n < e.x) →
      (c = .loc → ∃ h : Tr AB, reads log hide h = true ∧ ∀ n, touch e n → h.get n = e.R' n) → (lg = true → ⟨e.i, ns, none⟩ ∈ log1) → Kind P pol rec e c hide lg log log1
  | write : c = .write → (∀ K, e.pre K) → (∀ n, touch e n → n ∉ logged log hide) → (∃ h : Tr AB, reads log hide h = true ∧ ∀ n, touch e n → h.get n = e.R' n) → Kind P pol rec e c hide lg log log1

structure EX where
  e : Ent
  c : Cls
  hide : List Nat
  lg : Bool
  log : List LE
  log1 : List LE

theorem mem_logged {log : List LE} {hide : List Nat} {c n : Nat} {ns : List Nat} (h : (⟨c, ns, none⟩ : LE) ∈ log) (hc : c ∈ hide) (hn : n ∈ ns) : n ∈ logged log hide := by
  unfold logged
  rw [List.mem_flatMap]
  exact ⟨⟨c, ns, none⟩, List.mem_filter.2 ⟨h, by simpa using hc⟩, hn⟩

theorem merge_none {K R R' : Nat → Option AB} (h : ∀ n, ¬ ((R n).isSome = true ∨ (R' n).isSome = true)) : merge K R R' = K := by
  funext n; rw [merge_not (h n)]

/-- what was read is read again behind a step that has been looked after -/
theorem read_again {c : EX} {T : Tm} {m : Nat} {e : Ent} {log : List LE} {hide : List Nat} (hp : ∀ K, c.e.pre K ↔ ReadPre P pol rec c.e.o.op T c.e.v m K) (hcls : cls pol c.e.o.op = .read)
    (hle : (⟨c.e.i, foot T c.e.o.op, some (reOf P c.e.o.op T (foot T c.e.o.op) m c.e.v)⟩ : LE) ∈ log) (hin : c.e.i ∈ hide) (hr : ∃ h : Tr AB, reads log hide h = true ∧ ∀ n, touch e n → h.get n = e.R' n)
    (K : Nat → Option AB) (hK : c.e.pre K) : c.e.pre (merge K e.R e.R') := by
  rw [hp] at hK ⊢
  obtain ⟨h, hre, hget⟩ := hr
  have hre1 : reOf P c.e.o.op T (foot T c.e.o.op) m c.e.v h = true := by
    unfold reads at hre
    rw [List.all_eq_true] at hre
    have := hre _ hle
    simp only [Bool.or_eq_true, Bool.not_eq_true'] at this
    rcases this with h1 | h1
    · simp [hin] at h1
    · exact h1
  unfold reOf at hre1
  rcases foot_one T c.e.o.op with hf | ⟨n, hf⟩
  · obtain ⟨H, h1, h2⟩ := hK
    exact ⟨H, fun k => by rw [h1 k]; simp [hf], h2⟩
  · by_cases ht : touch e n
    · split at hre1
      · rename_i u S1 hrun
        rw [← read_rec (rec := rec) hcls (fun _ => false) (fun _ _ _ _ => none)] at hrun
        have hu := same_sames.1 _ _ hre1
        subst hu
        obtain ⟨rfl, _⟩ := read_congr (H' := restrict h (foot T c.e.o.op)) (m' := m) hcls hrun (fun _ _ => rfl)
        refine ⟨restrict h (foot T c.e.o.op), fun k => ?_, hrun⟩
        rw [restrict_get, hf]
        by_cases hk : k ∈ [n]
        · rw [if_pos hk, if_pos hk]
          have : k = n := by simpa using hk
          subst this
          rw [merge_touch ht, hget k ht]
        · rw [if_neg hk, if_neg hk]
      · cases hre1
    · obtain ⟨H, h1, h2⟩ := hK
      refine ⟨H, fun k => ?_, h2⟩
      rw [h1 k, hf]
      by_cases hk : k ∈ [n]
      · rw [if_pos hk, if_pos hk]
        have : k = n := by simpa using hk
        subst this
        rw [merge_not ht]
      · rw [if_neg hk, if_neg hk]

/-- two operations of a plan that no edge orders do not disturb each other -/
theorem indep_of {bs : List Nat} {c e : EX} (hc : ops[c.e.i]? = some c.e.o) (he : ops[e.e.i]? = some e.e.o) (kc : Kind P pol rec c.e c.c c.hide c.lg c.log c.log1) (ke : Kind P pol rec e.e e.c e.hide e.lg e.log e.log1)
    (hlog : ∀ q ∈ c.log1, q ∈ e.log) (hwr' : e.c = .pure ∨ e.c = .pcall → ∀ n, ¬ touch e.e n)
    (hpe : e.c = .pure ∨ e.c = .pcall → ∀ K, e.e.pre K)
    (hxy : c.e.y ≤ e.e.x) (hp : pairOk ops.toList bs ⟨c.e.i, c.hide, c.lg, c.c⟩ ⟨e.e.i, e.hide, e.lg, e.c⟩ = true) (hb : (bs.getD e.e.i 0).testBit c.e.i = false) : Indep ops c.e e.e := by
  unfold pairOk at hp
  simp only at hp
  rw [hb, Bool.false_or] at hp
  have h1 : ops.toList[c.e.i]? = some c.e.o := by simpa using hc
  have h2 : ops.toList[e.e.i]? = some e.e.o := by simpa using he
  rw [h1, h2] at hp
  simp only [Bool.and_eq_true] at hp
  obtain ⟨hap, hpair⟩ := hp
  have hap' : c.e.o.apart ops e.e.o = true := by simpa using hap
  have noneC : (∀ n, ¬ touch c.e n) → (∀ K, c.e.pre K) → Indep ops c.e e.e := fun ht hpre =>
    ⟨hap', fun n tc _ => absurd tc (ht n), fun K _ => hpre _, fun K h => by rw [merge_none (fun n => ht n)] at h; exact h⟩
  have noneE : (∀ n, ¬ touch e.e n) → (∀ K, e.e.pre K) → Indep ops c.e e.e := fun ht hpre =>
    ⟨hap', fun n _ te => absurd te (ht n), fun K h => by rw [merge_none (fun n => ht n)]; exact h, fun K _ => hpre _⟩
  have inHide : pairC c.c e.c = some true → c.e.i ∈ e.hide ∧ c.lg = true := fun h => by
    rw [h] at hpair; simpa using hpair
  cases kc with
  | none ht hpre => exact noneC ht hpre
  | read T m hcm hcls ht hpre hfoot hle =>
    cases ke with
    | none ht' hpre' => exact noneE ht' hpre'
    | read T' m' hcm' hcls' ht' hpre' hfoot' hle' =>
      exact ⟨hap', fun n tc _ => absurd tc (ht n), fun K h => by rw [merge_none (fun n => ht' n)]; exact h, fun K h => by rw [merge_none (fun n => ht n)] at h; exact h⟩
    | blk ns hk hpre' hns hny hx hall hre hle' =>
      obtain ⟨hin, hlg⟩ := inHide (by rcases hk with hk | hk <;> rw [hcm, hk] <;> rfl)
      refine ⟨hap', fun n tc _ => absurd tc (ht n), fun K hK => ?_, fun K _ => hpre' _⟩
      rcases hk with hk | hk
      · -- a new block
        rw [hpre] at hK ⊢
        obtain ⟨H, a1, a2⟩ := hK
        refine ⟨H, fun k => ?_, a2⟩
        rw [a1 k]
        by_cases hkf : k ∈ foot T c.e.o.op
        · rw [if_pos hkf, if_pos hkf]
          have hlt := hall _ (hlog _ (hle hlg)) hin k hkf
          rw [merge_not]
          intro ht2
          rcases hx k (hns k ht2) with h | ⟨h, _⟩
          · omega
          · rw [hk] at h; cases h
        · rw [if_neg hkf, if_neg hkf]
      · exact read_again hpre hcls (hlog _ (hle hlg)) hin (hre hk) K hK
    | write hk hpre' hx hre =>
      obtain ⟨hin, hlg⟩ := inHide (by rw [hcm, hk]; rfl)
      exact ⟨hap', fun n tc _ => absurd tc (ht n), fun K hK => read_again hpre hcls (hlog _ (hle hlg)) hin hre K hK, fun K _ => hpre' _⟩
  | blk ns hk hpre hns hny hx hall hre hle =>
    cases ke with
    | none ht' hpre' => exact noneE ht' hpre'
    | read T' m' hcm' hcls' ht' hpre' hfoot' hle' =>
      refine ⟨hap', fun n _ te => absurd te (ht' n), fun K _ => hpre _, fun K hK => ?_⟩
      obtain ⟨hin, hlg⟩ := inHide (by rcases hk with hk | hk <;> rw [hk, hcm'] <;> rfl)
      rw [hpre'] at hK ⊢
      obtain ⟨H, a1, a2⟩ := hK
      refine ⟨H, fun k => ?_, a2⟩
      rw [a1 k]
      by_cases hkf : k ∈ foot T' e.e.o.op
      · rw [if_pos hkf, if_pos hkf, merge_not]
        intro htk
        exact hfoot' k hkf (mem_logged (hlog _ (hle hlg)) hin (hns k htk))
      · rw [if_neg hkf, if_neg hkf]
    | blk ns' hk' hpre' hns' hny' hx' hall' hre' hle' =>
      refine ⟨hap', fun n tc te => ?_, fun K _ => hpre _, fun K _ => hpre' _⟩
      exfalso
      by_cases hboth : c.c = .alloc ∧ e.c = .alloc
      · have h1 := hny hboth.1 n (hns n tc)
        rcases hx' n (hns' n te) with h | ⟨hloc, h⟩
        · omega
        · rw [hboth.2] at hloc; cases hloc
      · obtain ⟨hin, hlg⟩ := inHide (by
          rcases hk with hk | hk <;> rcases hk' with hk' | hk'
          · exact absurd ⟨hk, hk'⟩ hboth
          · rw [hk, hk']; rfl
          · rw [hk, hk']; rfl
          · rw [hk, hk']; rfl)
        have hmem := hlog _ (hle hlg)
        have hlt : n < e.e.x := hall' _ hmem hin n (hns n tc)
        rcases hx' n (hns' n te) with h | ⟨hloc, h⟩
        · omega
        · exact h (mem_logged hmem hin (hns n tc))
    | write hk' hpre' hx' hre' =>
      refine ⟨hap', fun n tc te => ?_, fun K _ => hpre _, fun K _ => hpre' _⟩
      exfalso
      obtain ⟨hin, hlg⟩ := inHide (by rcases hk with hk | hk <;> rw [hk, hk'] <;> rfl)
      exact hx' n te (mem_logged (hlog _ (hle hlg)) hin (hns n tc))
  | write hk hpre hx hre =>
    have : e.c = .pure ∨ e.c = .pcall := by
      rw [hk] at hpair
      cases hce : e.c <;> rw [hce] at hpair <;> first | exact .inl rfl | exact .inr rfl | (simp [pairC] at hpair)
    exact noneE (hwr' this) (hpe this)

theorem note_sub {lg : Bool} {e : LE} {log : List LE} : ∀ q ∈ log, q ∈ note lg e log := by
  intro q hq
  cases lg <;> simp [note, hq]
theorem note_mem {e : LE} {log : List LE} {lg : Bool} (h : lg = true) : e ∈ note lg e log := by subst h; simp [note]

def PC (P : Program) (pol : FuncId → Bool) (rec : RunT) (ops : Array Oper) (nt : Nat) (l : List PS) (log : List LE) (T : Tm) (S : St) (T' : Tm) (S' : St) : Prop :=
    ∃ L : List EX, Chain ops (L.map (·.e)) T.get S.heap.get T'.get S'.heap.get ∧ L.map (fun x => (⟨x.e.i, x.hide, x.lg, x.c⟩ : PS)) = l ∧ (∀ x ∈ L, EntOk P ops nt x.e) ∧ (∀ x ∈ L, Kind P pol rec x.e x.c x.hide x.lg x.log x.log1) ∧
      (∀ x ∈ L, S.next ≤ x.e.x ∧ x.e.y ≤ S'.next) ∧ (∀ x ∈ L, ∀ q ∈ log, q ∈ x.log) ∧ L.Pairwise (fun c e => c.e.y ≤ e.e.x ∧ ∀ q ∈ c.log1, q ∈ e.log) ∧
      (∀ x ∈ L, x.c = .pure ∨ x.c = .pcall → (∀ n, ¬ touch x.e n) ∧ ∀ K, x.e.pre K) ∧ S.next ≤ S'.next

theorem lay_get (old h : Tr AB) : ∀ (ns : List Nat) (n : Nat), (lay old h ns).get n = if n ∈ ns ∧ (old.get n).isSome = true then old.get n else h.get n
  | [], n => by simp [lay]
  | m :: ns, n => by
    unfold lay
    split
    · rename_i b hb
      rw [Tr.get_put, lay_get old h ns n]
      by_cases e : n = m
      · subst e; simp [hb]
      · simp [e]
    · rename_i hb
      rw [lay_get old h ns n]
      by_cases e : n = m
      · subst e; simp [hb]
      · simp [e]

theorem names_mem {x y n : Nat} (h : x ≤ y) : n ∈ names x y ↔ x ≤ n ∧ n < y := by
  unfold names
  rw [List.mem_range'_1]
  omega

/-- the chain of a plan -/
theorem plan_chain (hx : MxOk P) (hs : StepOk P pol rec) {nt : Nat} {T' : Tm} {S' : St} : ∀ {l : List PS} {log : List LE} {T : Tm} {S : St}, (∀ p ∈ l, ∀ o, ops[p.i]? = some o → modeOk (cls pol o.op) p.c = true) → (planA pol P ops.toList l).f rec nt log T S = some (T', S') →
    PC P pol rec ops nt l log T S T' S'
  | [], log, T, S, _, h => by
    simp only [planA, Option.some.injEq, Prod.mk.injEq] at h
    obtain ⟨rfl, rfl⟩ := h
    exact ⟨[], ⟨rfl, rfl⟩, rfl, by simp, by simp, by simp, by simp, List.Pairwise.nil, by simp, Nat.le_refl _⟩
  | p :: l, log, T, S, hmo, h => by
    -- one entry in front of the rest
    have step : ∀ (e : Ent) (log1 : List LE) (T1 : Tm) (S1 : St), (planA pol P ops.toList l).f rec nt log1 T1 S1 = some (T', S') → e.i = p.i → e.T = T.get → EntOk P ops nt e → Kind P pol rec e p.c p.hide p.lg log log1 →
        S.next ≤ e.x → e.y ≤ S1.next → (∀ q ∈ log, q ∈ log1) → (∀ n b, e.R n = some b → S.heap.get n = some b) → e.pre S.heap.get → (p.c = .pure ∨ p.c = .pcall → (∀ n, ¬ touch e n) ∧ ∀ K, e.pre K) →
        updT T.get e = T1.get → merge S.heap.get e.R e.R' = S1.heap.get → PC P pol rec ops nt (p :: l) log T S T' S' := by
      intro e log1 T1 S1 hrest hi hT hok hk hx' hy hlog hsub hpre hpp hut hm
      obtain ⟨L, c1, c2, c3, c4, c5, c6, c7, c8, c9⟩ := plan_chain hx hs (fun q hq => hmo q (List.mem_cons_of_mem _ hq)) hrest
      have hle := hok.le
      refine ⟨⟨e, p.c, p.hide, p.lg, log, log1⟩ :: L, ⟨fun t _ => by rw [hT], hsub, hpre, by rw [hut, hm]; exact c1⟩, by simp [c2, hi], ?_, ?_, ?_, ?_, ?_, ?_, by omega⟩
      · intro x hx'
        rcases List.mem_cons.1 hx' with rfl | hx'
        · exact hok
        · exact c3 x hx'
      · intro x hx'
        rcases List.mem_cons.1 hx' with rfl | hx'
        · exact hk
        · exact c4 x hx'
      · intro x hx''
        rcases List.mem_cons.1 hx'' with rfl | hx''
        · exact ⟨hx', by simp only; omega⟩
        · have := c5 x hx''; omega
      · intro x hx' q hq
        rcases List.mem_cons.1 hx' with rfl | hx'
        · exact hq
        · exact c6 x hx' q (hlog q hq)
      · refine List.pairwise_cons.2 ⟨fun x hx' => ⟨?_, fun q hq => c6 x hx' _ hq⟩, c7⟩
        have := c5 x hx'
        simp only; omega
      · intro x hx'
        rcases List.mem_cons.1 hx' with rfl | hx'
        · exact hpp
        · exact c8 x hx'
    have none_touch : ∀ (i : Nat) (o : Oper) (T : Nat → Option AV) (b : Bool) (x y : Nat) (v : AV) (pre : (Nat → Option AB) → Prop), ∀ n, ¬ touch ⟨i, o, T, b, fun _ => none, fun _ => none, x, y, v, pre⟩ n := by
      intro i o T b x y v pre n ht
      rcases ht with h | h <;> simp at h
    have none_merge' : ∀ K : Nat → Option AB, merge K (fun _ => none) (fun _ => none) = K := by
      intro K; funext n; rw [merge_not (by simp)]
    have upd : ∀ (o : Oper) (v : AV) (T1 : Tm), putA nt T o.dst v = some T1 → ∀ (i : Nat) (Tf : Nat → Option AV) (b : Bool) (R R' : Nat → Option AB) (x y : Nat) (pre : (Nat → Option AB) → Prop), updT T.get ⟨i, o, Tf, b, R, R', x, y, v, pre⟩ = T1.get := by
      intro o v T1 hput i Tf b R R' x y pre
      funext t
      rw [(put_of hput).2 t]; rfl
    -- an operation that is not wanted
    have unwanted : ∀ o, ops[p.i]? = some o → wantA ops.toList T o = some false → ∀ T1, putA nt T o.dst (.tup []) = some T1 → (planA pol P ops.toList l).f rec nt log T1 S = some (T', S') → PC P pol rec ops nt (p :: l) log T S T' S' := by
      intro o ho hw T1 hput hrest
      exact step ⟨p.i, o, T.get, false, fun _ => none, fun _ => none, S.next, S.next, .tup [], fun _ => True⟩ log T1 S hrest rfl rfl
        ⟨ho, (put_of hput).1, Nat.le_refl _, fun E a hsr => wants_of (nt := nt) hw E a hsr, fun _ => ⟨rfl, fun _ => rfl, fun _ => rfl⟩, fun h => by cases h⟩
        (.none (none_touch _ _ _ _ _ _ _ _) (fun _ => trivial)) (Nat.le_refl _) (Nat.le_refl _) (fun q hq => hq) (fun n b hb => by cases hb) trivial (fun _ => ⟨none_touch _ _ _ _ _ _ _ _, fun _ => trivial⟩) (upd _ _ _ hput _ _ _ _ _ _ _ _) (none_merge' _)
    unfold planA at h
    split at h
    · cases h
    · rename_i o ho
      have ho' : ops[p.i]? = some o := by simpa using ho
      have hmode := hmo p (List.mem_cons_self ..) o ho'
      -- an operation that looks at no memory and leaves it alone
      have quiet : ∀ v, wantA ops.toList T o = some true → (aOp pol P o.op).f rec T ⟨.lf, S.next⟩ = some (v, ⟨.lf, S.next⟩) → ∀ T1, putA nt T o.dst v = some T1 → (planA pol P ops.toList l).f rec nt log T1 S = some (T', S') → PC P pol rec ops nt (p :: l) log T S T' S' := by
        intro v hb h1 T1 hput h
        refine step ⟨p.i, o, T.get, true, fun _ => none, fun _ => none, S.next, S.next, v, fun _ => True⟩ log T1 S h rfl rfl ⟨ho', (put_of hput).1, Nat.le_refl _, fun E a hsr => wants_of (nt := nt) hb E a hsr, (fun h => by cases h), ?_⟩
          (.none (none_touch _ _ _ _ _ _ _ _) (fun _ => trivial)) (Nat.le_refl _) (Nat.le_refl _) (fun q hq => hq) (fun n b hb => by cases hb) trivial (fun _ => ⟨none_touch _ _ _ _ _ _ _ _, fun _ => trivial⟩) (upd _ _ _ hput _ _ _ _ _ _ _ _) (none_merge' _)
        intro _ E a w K hsr hr _ _ pr hfr next Q hn
        refine hs h1 (operands_of hsr pr) (HR.empty E w) pr (fun n a b => by simp only at a b; omega) ?_
        intro v' w' E' hv tr
        refine hn v' w' E' hv ?_
        have e : (Tr.lf : Tr AB).get = fun _ => none := by funext n; simp
        simp only [e] at tr
        exact tr
      split at h
      · -- pure
        simp only at h
        rename_i hpc
        have hcls : cls pol o.op = .pure := by rw [hpc] at hmode; cases hq : cls pol o.op <;> rw [hq] at hmode <;> first | rfl | cases hmode
        rw [ob_some] at h
        obtain ⟨b, hb, h⟩ := h
        cases b
        · rw [bc_false, ob_some] at h
          obtain ⟨T1, hput, h⟩ := h
          exact unwanted o ho' hb T1 hput h
        · rw [bc_true] at h
          simp only [o2_eq, on3_eq, ob_some] at h
          obtain ⟨⟨v, S1⟩, h1, T1, hput, h⟩ := h
          exact quiet v hb (pure_local hcls h1 S.next).2 T1 hput h
      · -- pcall
        simp only at h
        rename_i hpc
        rw [ob_some] at h
        obtain ⟨b, hb, h⟩ := h
        cases b
        · rw [bc_false, ob_some] at h
          obtain ⟨T1, hput, h⟩ := h
          exact unwanted o ho' hb T1 hput h
        · rw [bc_true] at h
          simp only [o2_eq, on3_eq, ob_some, chk_some, nbeq_iff] at h
          obtain ⟨⟨v, S1⟩, h1, _, hnx, T1, hput, h⟩ := h
          refine step ⟨p.i, o, T.get, true, fun _ => none, fun _ => none, S.next, S.next, v, fun _ => True⟩ log T1 S h rfl rfl ⟨ho', (put_of hput).1, Nat.le_refl _, fun E a hsr => wants_of (nt := nt) hb E a hsr, (fun h => by cases h), ?_⟩
            (.none (none_touch _ _ _ _ _ _ _ _) (fun _ => trivial)) (Nat.le_refl _) (Nat.le_refl _) (fun q hq => hq) (fun n b hb => by cases hb) trivial (fun _ => ⟨none_touch _ _ _ _ _ _ _ _, fun _ => trivial⟩) (upd _ _ _ hput _ _ _ _ _ _ _ _) (none_merge' _)
          intro _ E a w K hsr hr _ _ pr hfr next Q hn
          have hnx' : S1.next = S.next := hnx
          refine hs h1 (operands_of hsr pr) (HR.empty E w) pr (fun n a b => by simp only at a b; omega) ?_
          intro v' w' E' hv tr
          refine hn v' w' E' hv ?_
          have := tr.forget (h'' := fun _ => none) (fun n b hb => by cases hb)
          have e : (Tr.lf : Tr AB).get = fun _ => none := by funext n; simp
          simp only [hnx', e] at this
          exact this
      · -- read
        simp only at h
        rename_i hpc
        have hcls : cls pol o.op = .read := by rw [hpc] at hmode; cases hq : cls pol o.op <;> rw [hq] at hmode <;> first | rfl | cases hmode
        rw [ob_some] at h
        obtain ⟨b, hb, h⟩ := h
        cases b
        · rw [bc_false, ob_some] at h
          obtain ⟨T1, hput, h⟩ := h
          exact unwanted o ho' hb T1 hput h
        · rw [bc_true] at h
          simp only [o2_eq, on3_eq, ob_some, chk_some] at h
          obtain ⟨_, hfoot, ⟨v, S1⟩, h1, T1, hput, h⟩ := h
          have hpre : ReadPre P pol rec o.op T v S.next S.heap.get :=
            ⟨restrict S.heap (foot T o.op), fun n => restrict_get _ _ _, (read_congr (H := S.heap) (m := S.next) hcls h1 (fun n hn => by rw [restrict_get, if_pos hn])).2⟩
          refine step ⟨p.i, o, T.get, true, fun _ => none, fun _ => none, S.next, S.next, v, ReadPre P pol rec o.op T v S.next⟩ _ T1 S h rfl rfl
            ⟨ho', (put_of hput).1, Nat.le_refl _, fun E a hsr => wants_of (nt := nt) hb E a hsr, (fun h => by cases h), ?_⟩ (.read T S.next hpc hcls (none_touch _ _ _ _ _ _ _ _) (fun K => Iff.rfl) ?_ (fun hlg => note_mem hlg)) (Nat.le_refl _) (Nat.le_refl _) note_sub
            (fun n b hb => by cases hb) hpre (fun hc => by simp only [hpc] at hc; rcases hc with hc | hc <;> cases hc) (upd _ _ _ hput _ _ _ _ _ _ _ _) (none_merge' _)
          · intro _ E a w K hsr hr hpreK _ pr hfr next Q hn
            obtain ⟨H, hH, hrun⟩ := hpreK
            have hrH : HR E H.get w := hr.weaken fun n b hb => by
              rw [hH n] at hb
              split at hb
              · exact hb
              · cases hb
            refine readSim hcls hrun (operands_of hsr pr) hrH pr fun v' hv => hn v' w E hv (Tran.refl _ ?_ pr)
            have e : (Tr.lf : Tr AB).get = fun _ => none := by funext n; simp
            have := HR.empty E w
            simp only [e] at this
            exact this
          · intro n hn hl
            simp only [List.all_eq_true, Bool.not_eq_true'] at hfoot
            have := hfoot n hn
            simp [hl] at this
      · -- alloc
        simp only at h
        rename_i hpc
        have hcls : cls pol o.op = .alloc := by rw [hpc] at hmode; cases hq : cls pol o.op <;> rw [hq] at hmode <;> first | rfl | cases hmode
        rw [ob_some] at h
        obtain ⟨b, hb, h⟩ := h
        cases b
        · rw [bc_false, ob_some] at h
          obtain ⟨T1, hput, h⟩ := h
          exact unwanted o ho' hb T1 hput h
        · rw [bc_true] at h
          simp only [o2_eq, on3_eq, ob_some, chk_some] at h
          obtain ⟨_, hall, ⟨v, S1⟩, h1, T1, hput, h⟩ := h
          rw [Bool.and_eq_true, Bool.not_eq_true'] at hall
          obtain ⟨hbt, hall⟩ := hall
          obtain ⟨blk, rfl, h2⟩ := alloc_local hcls hbt h1
          refine step ⟨p.i, o, T.get, true, fun _ => none, fun n => if n = S.next then some blk else none, S.next, S.next + 1, v, fun _ => True⟩ _ T1 (newB S blk) h rfl rfl
            ⟨ho', (put_of hput).1, Nat.le_succ _, fun E a hsr => wants_of (nt := nt) hb E a hsr, (fun h => by cases h), ?_⟩ (.blk [S.next] (.inl hpc) (fun _ => trivial) ?_ (fun _ n hn => Nat.lt_succ_of_le (Nat.le_of_eq (by simpa using hn))) ?_ ?_ (fun hc => by simp only [hpc] at hc; cases hc) (fun hlg => note_mem hlg)) (Nat.le_refl _) (Nat.le_refl _) note_sub
            (fun n b hb => by cases hb) trivial (fun hc => by simp only [hpc] at hc; rcases hc with hc | hc <;> cases hc) (upd _ _ _ hput _ _ _ _ _ _ _ _) ?_
          · intro _ E a w K hsr hr _ _ pr hfr next Q hn
            refine hs h2 (operands_of hsr pr) (HR.empty E w) pr (fun n a b => hfr n a b) ?_
            intro v' w' E' hv tr
            refine hn v' w' E' hv ?_
            have := tr.forget (h'' := fun n => if n = S.next then some blk else none) (fun n b hb => by
              by_cases e : n = S.next
              · subst e; rw [if_pos rfl] at hb; cases hb; simp [newB]
              · rw [if_neg e] at hb; cases hb)
            have e : (Tr.lf : Tr AB).get = fun _ => none := by funext n; simp
            simp only [e] at this
            exact this
          · intro n ht
            rcases ht with h | h
            · simp at h
            · simp only at h
              by_cases e : n = S.next
              · simp [e]
              · rw [if_neg e] at h; cases h
          · intro n hn
            left
            have : n = S.next := by simpa using hn
            simp only; omega
          · intro q hq hqi n hn
            unfold old at hall
            simp only [List.all_eq_true, Bool.or_eq_true, Bool.not_eq_true', nblt_iff] at hall
            rcases hall q hq with h | h
            · simp [hqi] at h
            · exact h n hn
          · funext n
            simp only [newB, Tr.get_put]
            by_cases e : n = S.next
            · subst e
              rw [merge_touch (by simp)]; simp
            · rw [merge_not (by simp [e]), if_neg e]
      · -- loc
        simp only at h
        rename_i hcls
        have hpc := hcls
        rw [ob_some] at h
        obtain ⟨b, hb, h⟩ := h
        cases b
        · rw [bc_false, ob_some] at h
          obtain ⟨T1, hput, h⟩ := h
          exact unwanted o ho' hb T1 hput h
        · rw [bc_true] at h
          simp only [o2_eq, on3_eq, ob_some, chk_some, nble_iff, Bool.and_eq_true] at h
          obtain ⟨_, ⟨hall, hfoot⟩, ⟨v, S1⟩, h1, _, hnx, _, hre, T1, hput, h⟩ := h
          have hnx' : S.next ≤ S1.next := hnx
          refine step ⟨p.i, o, T.get, true, (restrict S.heap (footL T o.op)).get, fun n => if n ∈ footL T o.op ++ names S.next S1.next then S1.heap.get n else none, S.next, S1.next, v, fun _ => True⟩ _ T1 ⟨lay S1.heap (back S1.heap S.heap (footL T o.op)) (names S.next S1.next), S1.next⟩ h rfl rfl
            ⟨ho', (put_of hput).1, hnx', fun E a hsr => wants_of (nt := nt) hb E a hsr, (fun h => by cases h), ?_⟩ (.blk (footL T o.op ++ names S.next S1.next) (.inr hcls) (fun _ => trivial) ?_ (fun hc => by simp only [hpc] at hc; cases hc) ?_ ?_ (fun _ => ⟨_, hre, ?_⟩) (fun hlg => note_mem hlg)) (Nat.le_refl _) (Nat.le_refl _) note_sub
            ?_ trivial (fun hc => by simp only [hpc] at hc; rcases hc with hc | hc <;> cases hc) (upd _ _ _ hput _ _ _ _ _ _ _ _) ?_
          · intro _ E a w K hsr hr _ hsub pr hfr next Q hn
            refine hs h1 (operands_of hsr pr) (hr.weaken hsub) pr hfr ?_
            intro v' w' E' hv tr
            refine hn v' w' E' hv (tr.forget fun n b hb => ?_)
            have hb : (if n ∈ footL T o.op ++ names S.next S1.next then S1.heap.get n else none) = some b := hb
            split at hb
            · exact hb
            · cases hb
          · intro n ht
            rcases ht with h | h
            · simp only [restrict_get] at h
              by_cases e : n ∈ footL T o.op
              · simp [e]
              · rw [if_neg e] at h; cases h
            · simp only at h
              by_cases e : n ∈ footL T o.op ++ names S.next S1.next
              · exact e
              · rw [if_neg e] at h; cases h
          · intro n hn
            rcases List.mem_append.1 hn with hn | hn
            · right
              refine ⟨hcls, fun hl => ?_⟩
              simp only [List.all_eq_true, Bool.not_eq_true'] at hfoot
              have := hfoot n hn
              simp [hl] at this
            · left; exact ((names_mem hnx').1 hn).1
          · intro q hq hqi n hn
            unfold old at hall
            simp only [List.all_eq_true, Bool.or_eq_true, Bool.not_eq_true', nblt_iff] at hall
            rcases hall q hq with h | h
            · simp [hqi] at h
            · exact h n hn
          · intro n ht
            have hin : n ∈ footL T o.op ++ names S.next S1.next := by
              rcases ht with h | h
              · simp only [restrict_get] at h
                by_cases e : n ∈ footL T o.op
                · simp [e]
                · rw [if_neg e] at h; cases h
              · simp only at h
                by_cases e : n ∈ footL T o.op ++ names S.next S1.next
                · exact e
                · rw [if_neg e] at h; cases h
            have key : (lay S1.heap (back S1.heap S.heap (footL T o.op)) (names S.next S1.next)).get n = S1.heap.get n := by
              rw [lay_get, back_get]
              by_cases e1 : n ∈ names S.next S1.next ∧ (S1.heap.get n).isSome = true
              · rw [if_pos e1]
              · rw [if_neg e1]
                by_cases e2 : n ∈ footL T o.op
                · rw [if_pos e2]
                · exfalso
                  have hn : n ∈ names S.next S1.next := (List.mem_append.1 hin).resolve_left e2
                  rcases ht with h | h
                  · simp only [restrict_get, if_neg e2] at h; cases h
                  · simp only [if_pos hin] at h; exact e1 ⟨hn, h⟩
            simp only [key, if_pos hin]
          · intro n b hb
            simp only [restrict_get] at hb
            split at hb
            · exact hb
            · cases hb
          · funext n
            simp only [lay_get, back_get]
            by_cases ht : ((restrict S.heap (footL T o.op)).get n).isSome = true ∨ ((if n ∈ footL T o.op ++ names S.next S1.next then S1.heap.get n else none : Option AB)).isSome = true
            · rw [merge_touch ht]
              by_cases e2 : n ∈ footL T o.op
              · rw [if_pos (List.mem_append_left _ e2), if_pos e2]; split <;> rfl
              · rcases ht with h | h
                · rw [restrict_get, if_neg e2] at h; cases h
                · by_cases hin : n ∈ footL T o.op ++ names S.next S1.next
                  · rw [if_pos hin] at h ⊢
                    rw [if_pos ⟨(List.mem_append.1 hin).resolve_left e2, h⟩]
                  · rw [if_neg hin] at h; cases h
            · rw [merge_not ht]
              simp only [not_or, Bool.not_eq_true, Option.isSome_eq_false_iff, Option.isNone_iff_eq_none, restrict_get] at ht
              by_cases e2 : n ∈ footL T o.op
              · rw [if_pos (List.mem_append_left _ e2), if_pos e2] at ht
                rw [if_neg (by rw [ht.2]; simp), if_pos e2, ht.1, ht.2]
              · by_cases hin : n ∈ footL T o.op ++ names S.next S1.next
                · rw [if_pos hin] at ht
                  rw [if_neg (by rw [ht.2]; simp), if_neg e2]
                · rw [if_neg (fun h => hin (List.mem_append_right _ h.1)), if_neg e2]
      · -- write
        simp only at h
        rename_i hcls
        have hpc := hcls
        rw [ob_some] at h
        obtain ⟨b, hb, h⟩ := h
        cases b
        · rw [bc_false, ob_some] at h
          obtain ⟨T1, hput, h⟩ := h
          exact unwanted o ho' hb T1 hput h
        · rw [bc_true] at h
          simp only [o2_eq, on3_eq, ob_some, chk_some, nble_iff] at h
          obtain ⟨⟨v, S1⟩, h1, _, hnx, _, hre, T1, hput, h⟩ := h
          refine step ⟨p.i, o, T.get, true, (dels S.heap (logged log p.hide)).get, fun n => if n ∈ logged log p.hide then none else S1.heap.get n, S.next, S1.next, v, fun _ => True⟩ log T1 ⟨back S.heap S1.heap (logged log p.hide), S1.next⟩ h rfl rfl
            ⟨ho', (put_of hput).1, hnx, fun E a hsr => wants_of (nt := nt) hb E a hsr, (fun h => by cases h), ?_⟩ (.write hcls (fun _ => trivial) ?_ ⟨_, hre, ?_⟩) (Nat.le_refl _) (Nat.le_refl _) (fun q hq => hq) ?_ trivial
            (fun hc => by simp only [hpc] at hc; rcases hc with hc | hc <;> cases hc) (upd _ _ _ hput _ _ _ _ _ _ _ _) ?_
          · intro _ E a w K hsr hr _ hsub pr hfr next Q hn
            refine hs h1 (operands_of hsr pr) (hr.weaken hsub) pr hfr ?_
            intro v' w' E' hv tr
            refine hn v' w' E' hv (tr.forget fun n b hb => ?_)
            have hb : (if n ∈ logged log p.hide then none else S1.heap.get n) = some b := hb
            by_cases e : n ∈ logged log p.hide
            · rw [if_pos e] at hb; cases hb
            · rw [if_neg e] at hb; exact hb
          · intro n ht hl
            rcases ht with h | h
            · simp only [dels_get, if_pos hl] at h; cases h
            · simp only [if_pos hl] at h; cases h
          · intro n ht
            have hl : n ∉ logged log p.hide := by
              intro hl
              rcases ht with h | h
              · simp only [dels_get, if_pos hl] at h; cases h
              · simp only [if_pos hl] at h; cases h
            simp only [back_get, if_neg hl]
          · intro n b hb
            simp only [dels_get] at hb
            split at hb
            · cases hb
            · exact hb
          · funext n
            simp only [back_get]
            by_cases hl : n ∈ logged log p.hide
            · rw [merge_not (by simp [dels_get, hl]), if_pos hl]
            · rw [if_neg hl]
              by_cases ht : ((dels S.heap (logged log p.hide)).get n).isSome = true ∨ ((if n ∈ logged log p.hide then none else S1.heap.get n : Option AB)).isSome = true
              · rw [merge_touch ht, if_neg hl]
              · rw [merge_not ht]
                simp only [dels_get, if_neg hl, not_or, Bool.not_eq_true, Option.isSome_eq_false_iff, Option.isNone_iff_eq_none] at ht
                rw [ht.1, ht.2]

end
end Go.Eng
