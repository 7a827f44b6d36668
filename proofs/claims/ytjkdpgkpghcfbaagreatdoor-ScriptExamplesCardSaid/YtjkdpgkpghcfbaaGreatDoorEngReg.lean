/-
  Regions in the order of the text; code; the whole run.
-/
import Derived.Test.YtjkdpgkpghcfbaaGreatDoorEngSim
set_option linter.unusedSimpArgs false
set_option linter.unusedVariables false
namespace Go.Eng
set_option linter.unusedSectionVars false
variable [Gl] [Mx]
section
variable {P : Program} {E : Gh} {S S' : St} {w : World} {T T' : Tm}

theorem TR.put {nt : Nat} {a : Act} {dst : Option Tmp} {v : AV} {v' : Value} (h : putA nt T dst v = some T') (ht : TR E nt T.get a) (hv : VR E v v') : TR E nt T'.get (a.put dst v') := by
  unfold putA at h
  split at h
  · cases h; exact ht
  · rename_i d
    simp only [o2_eq, on3_eq, ob_some, chk_some, nblt_iff, Option.some.injEq] at h
    obtain ⟨_, hd, rfl⟩ := h
    refine ⟨by simp [Act.put, ht.1], fun t x hx => ?_⟩
    rw [Tr.get_put] at hx
    by_cases e : t = d
    · subst e
      rw [if_pos rfl] at hx
      cases hx
      exact ⟨v', by simp [Act.put, ht.1, hd], hv⟩
    · rw [if_neg e] at hx
      obtain ⟨u, hu, hxu⟩ := ht.2 t x hx
      exact ⟨u, by simp [Act.put, Array.getElem?_setIfInBounds_ne (Ne.symm e), hu], hxu⟩

theorem put_defers (a : Act) (dst : Option Tmp) (v : Value) : (a.put dst v).defers = a.defers := by cases dst <;> rfl

theorem VR.undef (E : Gh) : VR E (.tup []) undef := by simp only [VR, Go.undef]; exact ⟨#[], rfl, VRP.nil, rfl⟩

theorem want_rel {nt : Nat} {a : Act} {ops : Array Oper} {o : Oper} {b : Bool} (h : wantA ops.toList T o = some b) (ht : TR E nt T.get a) : Region.wanted o (yielded ops a.tmps) = b := by
  unfold wantA at h
  unfold Region.wanted
  split at h
  · rename_i hg; rw [hg]; cases h; rfl
  · rename_i j wnt hg
    rw [hg]
    simp only
    unfold yielded
    have e : (ops[j]?).bind (·.dst) = (ops.toList[j]?).ob (·.dst) := by rw [ob_eq]; simp
    split at h
    · rename_i hd
      rw [e, hd]; cases h; rfl
    · rename_i d hd
      rw [e, hd]
      rw [ob_some] at h
      obtain ⟨x, hx, h⟩ := h
      obtain ⟨u, hu, hxu⟩ := ht.2 d x hx
      simp only [Option.bind_some, hu]
      cases x <;> simp only [VR] at hxu
      case bool c => subst hxu; cases h; cases c <;> cases wnt <;> rfl
      all_goals
        cases h
        first
          | (subst hxu; rfl)
          | (rcases hxu with ⟨_, _, _, _, rfl, _⟩ | ⟨_, _, rfl⟩ <;> rfl)
          | (obtain ⟨_, rfl⟩ := hxu; rfl)
          | (obtain ⟨_, rfl, _⟩ := hxu; rfl)
          | (obtain ⟨_, _, rfl, _⟩ := hxu; rfl)
          | (obtain ⟨_, _, _, rfl, _⟩ := hxu; rfl)

theorem ev_rel {nt : Nat} {a : Act} (ht : TR E nt T.get a) (pr : PR E w) {x : Operand} {v : AV} (h : ev T x = some v) : VR E v (a.eval x) := by
  unfold ev at h
  split at h
  · obtain ⟨u, hu, hxu⟩ := ht.2 _ _ h
    simpa [Act.eval, Array.getD_eq_getD_getElem?, hu] using hxu
  · exact cv_rel E h
  · exact VR.mono (Ext.ofIce E) _ _ (pr.gl _ _ h)
  · cases h
    simp only [VR, Act.eval]
    exact ⟨#[], #[], rfl, ⟨VRP.nil, rfl⟩, VRP.nil, rfl⟩

/-- names only grow -/
theorem ops_le {pol : FuncId → Bool} {rec : RunT} {nt : Nat} {all : List Oper} : ∀ {l : List Oper} {T : Tm} {S : St} {T' : Tm} {S' : St}, (opsA pol P all l).f rec nt T S = some (T', S') → S.next ≤ S'.next
  | [], T, S, T', S', h => by simp only [opsA, Option.some.injEq, Prod.mk.injEq] at h; rw [← h.2]; exact Nat.le_refl _
  | o :: l, T, S, T', S', h => by
    unfold opsA at h
    split at h
    · simp only [o2_eq, on3_eq, ob_some, chk_some, nble_iff] at h
      obtain ⟨r, _, _, hle, _, _, h⟩ := h
      exact Nat.le_trans hle (ops_le h)
    · rw [ob_some] at h
      obtain ⟨b, _, h⟩ := h
      cases b
      · rw [bc_false] at h
        simp only [o2_eq, on3_eq, ob_some] at h
        obtain ⟨_, _, h⟩ := h
        exact ops_le h
      · rw [bc_true] at h
        simp only [o2_eq, on3_eq, ob_some, chk_some, nble_iff] at h
        obtain ⟨r, _, _, hle, _, _, h⟩ := h
        exact Nat.le_trans hle (ops_le h)

/-- one operation that is wanted -/
def StepOk (P : Program) (pol : FuncId → Bool) (rec : RunT) : Prop := ∀ {E : Gh} {S S' : St} {w : World} {T : Tm} {o : Oper} {a : Act} {v : AV}, (aOp pol P o.op).f rec T S = some (v, S') →
    (∀ x ∈ o.op.operands.toList, ∀ u, ev T x = some u → VR E u (a.eval x)) → HR E S.heap.get w → PR E w → (∀ n, S.next ≤ n → n < S'.next → ¬ E.dom n) →
    ∀ {next : Act → World → Prop} {Q : Exit → Act → World → Prop},
    (∀ v' w' E', VR E' v v' → Tran E S.heap.get w S.next E' S'.heap.get w' S'.next → next (a.put o.dst v') w') → o.wp P a w next Q

theorem ops_ok {pol : FuncId → Bool} {rec : RunT} (hs : StepOk P pol rec) {nt : Nat} {ops : Array Oper} {Q : Exit → Act → World → Prop} {T' : Tm} {S' : St} :
    ∀ {l : List Oper} {k : Nat} {E : Gh} {S : St} {w : World} {T : Tm} {a : Act}, (opsA pol P ops.toList l).f rec nt T S = some (T', S') → l = ops.toList.drop k → TR E nt T.get a → HR E S.heap.get w → PR E w →
      (∀ n, S.next ≤ n → n < S'.next → ¬ E.dom n) → a.defers = [] →
      (∀ E' a' w', TR E' nt T'.get a' → a'.defers = [] → Tran E S.heap.get w S.next E' S'.heap.get w' S'.next → Q .normal a' w') → wpOps P ops Q (List.range' k (ops.size - k)) a w
  | [], k, E, S, w, T, a, h, hl, ht, hr, pr, _, hd, hq => by
    simp only [opsA, Option.some.injEq, Prod.mk.injEq] at h
    obtain ⟨rfl, rfl⟩ := h
    have : ops.size ≤ k := by
      have := congrArg List.length hl
      simp at this; omega
    rw [show ops.size - k = 0 from by omega]
    exact hq E a w ht hd (Tran.refl _ hr pr)
  | o :: l, k, E, S, w, T, a, h, hl, ht, hr, pr, fresh, hd, hq => by
    have hlen : k < ops.size := by
      have := congrArg List.length hl
      simp at this; omega
    have ho : ops[k]? = some o := by
      have := congrArg (·[0]?) hl
      simp at this
      rw [← this]
    have hl' : l = ops.toList.drop (k + 1) := by
      rw [← List.drop_drop, ← hl]; rfl
    rw [show ops.size - k = (ops.size - (k + 1)) + 1 from by omega, List.range'_succ]
    simp only [wpOps, ho]
    have yes : ∀ r, (aOp pol P o.op).f rec T S = some r → S.next ≤ r.2.next → ∀ T1, putA nt T o.dst r.1 = some T1 → (opsA pol P ops.toList l).f rec nt T1 r.2 = some (T', S') → o.wp P a w (wpOps P ops Q (List.range' (k + 1) (ops.size - (k + 1)))) Q := by
      intro r hr1 hle T1 hput hrest
      obtain ⟨v, S1⟩ := r
      have hle2 := ops_le hrest
      refine hs hr1 (fun x _ u hu => ev_rel ht pr hu) hr pr (fun n h1 h2 => fresh n h1 (Nat.lt_of_lt_of_le h2 hle2)) ?_
      intro v' w' E' hv tr
      refine ops_ok hs hrest hl' (TR.put hput (ht.mono tr.ext) hv) tr.hr tr.pr ?_ (by rw [put_defers]; exact hd) ?_
      · intro n h1 h2 d
        rcases tr.dom n d with d | ⟨_, d⟩
        · exact fresh n (Nat.le_trans hle h1) h2 d
        · exact absurd h1 (by simp only at d ⊢; omega)
      · intro E2 a2 w2 ht2 hd2 tr2
        exact hq E2 a2 w2 ht2 hd2 (tr.trans tr2)
    have no : ∀ T1, putA nt T o.dst (.tup []) = some T1 → (opsA pol P ops.toList l).f rec nt T1 S = some (T', S') → wpOps P ops Q (List.range' (k + 1) (ops.size - (k + 1))) (a.put o.dst undef) w := by
      intro T1 hput hrest
      exact ops_ok hs hrest hl' (TR.put hput ht (VR.undef E)) hr pr fresh (by rw [put_defers]; exact hd) hq
    unfold opsA at h
    split at h
    · rename_i hg
      have hw : Region.wanted o (yielded ops a.tmps) = true := by unfold Region.wanted; rw [hg]
      rw [if_pos hw]
      simp only [o2_eq, on3_eq, ob_some, chk_some, nble_iff] at h
      obtain ⟨r, h1, _, hle, T1, hput, h⟩ := h
      exact .inl (yes r h1 hle T1 hput h)
    · rw [ob_some] at h
      obtain ⟨b, hb, h⟩ := h
      have hw := want_rel hb ht
      cases b
      · rw [bc_false] at h
        simp only [o2_eq, on3_eq, ob_some] at h
        obtain ⟨T1, hput, h⟩ := h
        rw [if_neg (by rw [hw]; simp)]
        exact no T1 hput h
      · rw [bc_true] at h
        simp only [o2_eq, on3_eq, ob_some, chk_some, nble_iff] at h
        obtain ⟨r, h1, _, hle, T1, hput, h⟩ := h
        rw [if_pos hw]
        exact .inl (yes r h1 hle T1 hput h)

end
end Go.Eng
