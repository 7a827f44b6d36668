/-
  What an operation looks at.
-/
import Derived.Test.YtjkdpgkpghcfbaaGreatDoorEngChain
set_option linter.unusedSimpArgs false
set_option linter.unusedVariables false
namespace Go.Eng
set_option linter.unusedSectionVars false
variable [Gl] [Mx]

theorem back_get (old h : Tr AB) : ∀ (ns : List Nat) (n : Nat), (back old h ns).get n = if n ∈ ns then old.get n else h.get n
  | [], n => by simp [back]
  | m :: ns, n => by
    show Tr.getP (pathOf n) ((back old h ns).setP (old.get m) (pathOf m)) = _
    rw [Tr.getP_setP]
    by_cases e : n = m
    · subst e; simp
    · rw [if_neg (fun h => e (pathOf_inj h))]
      have := back_get old h ns n
      unfold Tr.get at this
      rw [this]
      simp [e, Tr.get]

theorem dels_get (h : Tr AB) : ∀ (ns : List Nat) (n : Nat), (dels h ns).get n = if n ∈ ns then none else h.get n
  | [], n => by simp [dels]
  | m :: ns, n => by
    simp only [dels, Tr.get_del, dels_get h ns n, List.mem_cons]
    by_cases e : n = m <;> simp [e]

theorem restrict_get (h : Tr AB) : ∀ (ns : List Nat) (n : Nat), (restrict h ns).get n = if n ∈ ns then h.get n else none
  | [], n => by simp [restrict]
  | m :: ns, n => by
    unfold restrict
    split
    · rename_i b hb
      rw [Tr.get_put, restrict_get h ns n]
      by_cases e : n = m
      · subst e; simp [hb]
      · simp [e]
    · rename_i hb
      rw [restrict_get h ns n]
      by_cases e : n = m
      · subst e; simp [hb]
      · simp [e]

section
variable {P : Program} {ops : Array Oper} {pol : FuncId → Bool} {rec : RunT}

/-- a pure operation looks at no memory -/
theorem pure_local {o : Op} {T : Tm} {S S' : St} {v : AV} (hc : cls pol o = .pure) (h : (aOp pol P o).f rec T S = some (v, S')) (m : Nat) : S' = S ∧ (aOp pol P o).f rec T ⟨.lf, m⟩ = some (v, ⟨.lf, m⟩) := by
  cases o <;> simp only [cls, reduceCtorEq] at hc
  case pick c a b =>
    simp only [aOp, o2_eq, on3_eq, ob_some] at h ⊢
    obtain ⟨x, hx, h⟩ := h
    split at h
    · simp only [o2_eq, on3_eq, ob_some, Option.some.injEq, Prod.mk.injEq] at h
      obtain ⟨y, hy, rfl, rfl⟩ := h
      exact ⟨rfl, _, hx, by simp [Option.ob, hy]⟩
    · simp only [o2_eq, on3_eq, ob_some, Option.some.injEq, Prod.mk.injEq] at h
      obtain ⟨y, hy, rfl, rfl⟩ := h
      exact ⟨rfl, _, hx, by simp [Option.ob, hy]⟩
    · cases h
  case slice t x lo hi mx =>
    cases hb : allN lo hi mx with
    | true => rw [hb] at hc; cases hc
    | false =>
      simp only [aOp, sliceX, hb, cond_false, o2_eq, on3_eq, ob_some, Option.some.injEq, Prod.mk.injEq] at h ⊢
      obtain ⟨u, hu, z, hz, rfl, rfl⟩ := h
      exact ⟨rfl, u, hu, z, hz, rfl, trivial⟩
  case nilCheck x =>
    simp only [aOp, o2_eq, on3_eq, ob_some] at h ⊢
    obtain ⟨u, hu, h⟩ := h
    split at h
    · cases h
    · cases h
    · cases h
    · rename_i n1 n2 n3
      cases h
      refine ⟨rfl, v, hu, ?_⟩
      cases v <;> first | rfl | (exfalso; first | exact n1 rfl | exact n2 rfl | exact n3 rfl)
  case makeInterface t x =>
    simp only [aOp, o2_eq, on3_eq, ob_some] at h ⊢
    obtain ⟨e, he, u, hu, h⟩ := h
    split at h
    · cases h
    · rename_i hni
      cases h
      refine ⟨rfl, e, he, u, hu, ?_⟩
      split
      · rename_i hi; exact absurd hi (hni _)
      · rfl
  case makeFunc fn f c =>
    simp only [aOp] at h ⊢
    split at h
    · simp only [o2_eq, on3_eq, ob_some, Option.some.injEq, Prod.mk.injEq] at h
      obtain ⟨a, ha, b, hb, rfl, rfl⟩ := h
      exact ⟨rfl, by simp [Option.ob, ha, hb]⟩
    · cases h
  case extract t i =>
    simp only [aOp, o2_eq, on3_eq, ob_some] at h ⊢
    obtain ⟨u, hu, h⟩ := h
    split at h
    · simp only [o2_eq, on3_eq, ob_some, Option.some.injEq, Prod.mk.injEq] at h
      obtain ⟨y, hy, rfl, rfl⟩ := h
      exact ⟨rfl, _, hu, by simp [Option.ob, hy]⟩
    · cases h
  case call c =>
    have key : ∀ b, c.callee = .builtin b → (b = .max ∨ b = .min) → S' = S ∧ (aOp pol P (.call c)).f rec T ⟨.lf, m⟩ = some (v, ⟨.lf, m⟩) := by
      intro b hb hm
      simp only [aOp, hb, o2_eq, on3_eq, ob_some] at h ⊢
      obtain ⟨args, ha, h⟩ := h
      rcases hm with rfl | rfl
      · simp only [builtinA, o2_eq, on3_eq, ob_some, Option.some.injEq, Prod.mk.injEq] at h
        obtain ⟨y, hy, rfl, rfl⟩ := h
        exact ⟨rfl, args, ha, by simp [builtinA, Option.ob, hy]⟩
      · simp only [builtinA, o2_eq, on3_eq, ob_some, Option.some.injEq, Prod.mk.injEq] at h
        obtain ⟨y, hy, rfl, rfl⟩ := h
        exact ⟨rfl, args, ha, by simp [builtinA, Option.ob, hy]⟩
    split at hc
    · cases hc
    · rename_i hb; exact key _ hb (.inl rfl)
    · rename_i hb; exact key _ hb (.inr rfl)
    · cases hc
    · rename_i f _
      cases hp : polO pol f <;> simp [hp] at hc
    · cases hc
  all_goals
    simp only [aOp, o2_eq, on3_eq, ob_some, Option.some.injEq, Prod.mk.injEq] at h
    first
      | (obtain ⟨x1, h1, rfl, rfl⟩ := h; exact ⟨rfl, by simp only [aOp, h1]; rfl⟩)
      | (obtain ⟨x1, h1, x2, h2, rfl, rfl⟩ := h; exact ⟨rfl, by simp only [aOp, h1, o2_eq, on3_eq, ob_some]; exact ⟨_, rfl, _, h2, rfl⟩⟩)
      | (obtain ⟨x1, h1, x2, h2, x3, h3, rfl, rfl⟩ := h; exact ⟨rfl, by simp only [aOp, h1, h2, o2_eq, on3_eq, ob_some]; exact ⟨_, rfl, _, rfl, _, h3, rfl⟩⟩)

theorem readOf_congr {H H' : Tr AB} {m m' n : Nat} (h : H.get n = H'.get n) : readOf ⟨H, m⟩ n = readOf ⟨H', m'⟩ n := by simp only [readOf, h]
theorem entriesOf_congr {H H' : Tr AB} {m m' n : Nat} (h : H.get n = H'.get n) : entriesOf ⟨H, m⟩ n = entriesOf ⟨H', m'⟩ n := by simp only [entriesOf, h]

theorem loadA_congr {e : TE} {H H' : Tr AB} {m m' : Nat} {p u : AV} (h : ∀ n ∈ nameOf p, H.get n = H'.get n) (hl : loadA e ⟨H, m⟩ p = some u) : loadA e ⟨H', m'⟩ p = some u := by
  unfold loadA at hl ⊢
  split at hl
  · rename_i n off
    rw [readOf_congr (H' := H') (m' := m') (h n (by simp [nameOf]))] at hl
    exact hl
  · exact hl
  · cases hl

theorem lookupA_congr {t : TypeId} {k u : AV} {ok : Bool} {H H' : Tr AB} {m m' : Nat} {p : AV} (h : ∀ n ∈ nameOf p, H.get n = H'.get n) (hl : lookupA P ⟨H, m⟩ t p k ok = some u) : lookupA P ⟨H', m'⟩ t p k ok = some u := by
  simp only [lookupA, o2_eq, on3_eq, ob_some] at hl ⊢
  obtain ⟨e, he, ke, hke, kt, hkt, et, het, x, hx, es, hes, r, hr, hl⟩ := hl
  refine ⟨e, he, ke, hke, kt, hkt, et, het, x, hx, es, ?_, r, hr, hl⟩
  split at hes
  · exact hes
  · rename_i n
    simp only [o2_eq, on3_eq, ob_some] at hes ⊢
    obtain ⟨c, hc, hes⟩ := hes
    exact ⟨c, by rw [← entriesOf_congr (h n (by simp [nameOf]))]; exact hc, hes⟩
  · cases hes

theorem convU_congr {s d : TypeDesc} {H H' : Tr AB} {m m' : Nat} {p u : AV} (h : ∀ n ∈ nameOf p, H.get n = H'.get n) (hl : convU P ⟨H, m⟩ s d p = some u) : convU P ⟨H', m'⟩ s d p = some u := by
  unfold convU at hl ⊢
  split at hl
  · rename_i n off
    have e := h n (by simp [nameOf])
    simp only [o2_eq, on3_eq, ob_some] at hl ⊢
    obtain ⟨g, hg, cs, hcs, hl⟩ := hl
    exact ⟨g, hg, cs, by rw [← readOf_congr e]; exact hcs, hl⟩
  · rename_i u n off
    have e := h n (by simp [nameOf])
    have e2 : typed ⟨H', m'⟩ n u = typed ⟨H, m⟩ n u := by simp only [typed, e]
    have e3 : cellsOf ⟨H', m'⟩ n = cellsOf ⟨H, m⟩ n := by simp only [cellsOf, e]
    rw [e2, e3]
    exact hl
  · cases hl

theorem convA_congr {s d : TypeId} {H H' : Tr AB} {m m' : Nat} {p u : AV} (h : ∀ n ∈ nameOf p, H.get n = H'.get n) (hl : convA P ⟨H, m⟩ s d p = some u) : convA P ⟨H', m'⟩ s d p = some u := by
  simp only [convA, o2_eq, on3_eq, ob_some] at hl ⊢
  obtain ⟨s', hs, d', hd, hl⟩ := hl
  refine ⟨s', hs, d', hd, ?_⟩
  split at hl
  · exact hl
  · exact hl
  · rename_i e h1 h2
    simp only [o2_eq, on3_eq, ob_some] at hl ⊢
    obtain ⟨g, hg, hl⟩ := hl
    refine ⟨g, hg, ?_⟩
    split at hl
    · exact hl
    · rename_i b off len c z h3
      simp only [o2_eq, on3_eq, ob_some] at hl ⊢
      obtain ⟨cs, hcs, hl⟩ := hl
      refine ⟨cs, ?_, hl⟩
      simp only [srcA] at hcs ⊢
      rw [← readOf_congr (h b (by simp [nameOf]))]; exact hcs
    · rename_i h3
      simp only [o2_eq, on3_eq, ob_some] at hl ⊢
      obtain ⟨cs, hcs, hl⟩ := hl
      exact ⟨cs, hcs, hl⟩
    · cases hl
  · exact convU_congr h hl

theorem lenA_congr {t : TypeId} {H H' : Tr AB} {m m' : Nat} {p u : AV} (h : ∀ n, p = .map n → H.get n = H'.get n) (hl : lenA P ⟨H, m⟩ t p = some u) : lenA P ⟨H', m'⟩ t p = some u := by
  simp only [lenA, o2_eq, on3_eq, ob_some] at hl ⊢
  obtain ⟨e, he, hl⟩ := hl
  refine ⟨e, he, ?_⟩
  split at hl
  all_goals first | (cases hl; done) | skip
  case h_7 k el n h1 =>
    simp only [o2_eq, on3_eq, ob_some] at hl ⊢
    obtain ⟨c, hc, hl⟩ := hl
    exact ⟨c, by rw [← entriesOf_congr (h n rfl)]; exact hc, hl⟩
  all_goals exact hl

/-- a reading operation leaves memory alone, and looks at its blocks alone -/
theorem read_congr {o : Op} {T : Tm} {H H' : Tr AB} {m m' : Nat} {S' : St} {v : AV} (hc : cls pol o = .read) (h : (aOp pol P o).f rec T ⟨H, m⟩ = some (v, S')) (hh : ∀ n ∈ foot T o, H.get n = H'.get n) :
    S' = ⟨H, m⟩ ∧ (aOp pol P o).f rec T ⟨H', m'⟩ = some (v, ⟨H', m'⟩) := by
  cases o <;> simp only [cls, reduceCtorEq] at hc
  case slice t x lo hi mx => cases hb : allN lo hi mx <;> rw [hb] at hc <;> cases hc
  case load t p =>
    simp only [aOp] at h ⊢
    split at h
    · rename_i e he
      simp only [o2_eq, on3_eq, ob_some, Option.some.injEq, Prod.mk.injEq] at h ⊢
      obtain ⟨q, hq, u, hu, rfl, rfl⟩ := h
      exact ⟨rfl, q, hq, u, loadA_congr (fun n hn => hh n (by simp only [foot, hq]; exact hn)) hu, rfl, trivial⟩
    · cases h
  case convert s d x =>
    simp only [aOp, o2_eq, on3_eq, ob_some, Option.some.injEq, Prod.mk.injEq] at h ⊢
    obtain ⟨q, hq, u, hu, rfl, rfl⟩ := h
    exact ⟨rfl, q, hq, u, convA_congr (fun n hn => hh n (by simp only [foot, hq]; exact hn)) hu, rfl, trivial⟩
  case lookup t x i ok =>
    simp only [aOp, o2_eq, on3_eq, ob_some, Option.some.injEq, Prod.mk.injEq] at h ⊢
    obtain ⟨q, hq, k, hk, u, hu, rfl, rfl⟩ := h
    exact ⟨rfl, q, hq, k, hk, u, lookupA_congr (fun n hn => hh n (by simp only [foot, hq]; exact hn)) hu, rfl, trivial⟩
  case call c =>
    split at hc
    · rename_i hcal
      simp only [aOp, hcal, o2_eq, on3_eq, ob_some] at h ⊢
      obtain ⟨args, ha, h⟩ := h
      unfold builtinA at h
      split at h
      · rename_i x t ts _ hts
        simp only [o2_eq, on3_eq, ob_some, Option.some.injEq, Prod.mk.injEq] at h
        obtain ⟨z, hz, rfl, rfl⟩ := h
        refine ⟨rfl, [x], ha, ?_⟩
        simp only [builtinA, hts, o2_eq, on3_eq, ob_some, Option.some.injEq, Prod.mk.injEq]
        refine ⟨z, lenA_congr (fun n hn => hh n ?_) hz, rfl, trivial⟩
        subst hn
        match hargs : c.args.toList, ha with
        | [], ha => simp [evs] at ha
        | [y], ha =>
          simp only [evs, o2_eq, on3_eq, ob_some, Option.some.injEq] at ha
          obtain ⟨u, hu, us, rfl, hus⟩ := ha
          cases hus
          simp [foot, hargs, hu]
        | _ :: _ :: _, ha =>
          simp only [evs, o2_eq, on3_eq, ob_some, Option.some.injEq] at ha
          obtain ⟨u, hu, us, ⟨u2, _, us2, _, rfl⟩, hus⟩ := ha
          cases hus
      all_goals first | (cases h; done) | contradiction
    · cases hc
    · cases hc
    · cases hc
    · rename_i f _
      cases hp : polO pol f <;> simp [hp] at hc
    · cases hc

/-- a reading operation calls nothing -/
theorem read_rec {o : Op} {T : Tm} {S : St} (hc : cls pol o = .read) (pol' : FuncId → Bool) (rec' : RunT) : (aOp pol P o).f rec T S = (aOp pol' P o).f rec' T S := by
  cases o <;> simp only [cls, reduceCtorEq] at hc
  case slice t x lo hi mx => cases hb : allN lo hi mx <;> rw [hb] at hc <;> cases hc
  case load t p => simp only [aOp]; split <;> rfl
  case convert => rfl
  case lookup => rfl
  case call c =>
    cases hcal : c.callee <;> rw [hcal] at hc
    · rename_i f
      cases hp : polO pol f <;> simp [hp] at hc
    · cases hc
    · simp only [aOp, hcal]

theorem nameOf_one (v : AV) : nameOf v = [] ∨ ∃ n, nameOf v = [n] := by cases v <;> simp [nameOf]

theorem foot_one (T : Tm) (o : Op) : foot T o = [] ∨ ∃ n, foot T o = [n] := by
  unfold foot
  split
  · split
    · exact nameOf_one _
    · exact .inl rfl
  · split
    · exact nameOf_one _
    · exact .inl rfl
  · split
    · exact nameOf_one _
    · exact .inl rfl
  · split
    · split
      · exact .inr ⟨_, rfl⟩
      · exact .inl rfl
    · exact .inl rfl
  · exact .inl rfl

/-- an operation that makes a block makes one, and looks at no memory -/
theorem alloc_local {o : Op} {T : Tm} {S S' : St} {v : AV} (hc : cls pol o = .alloc) (hb : isBt o = false) (h : (aOp pol P o).f rec T S = some (v, S')) :
    ∃ b, S' = newB S b ∧ (aOp pol P o).f rec T ⟨.lf, S.next⟩ = some (v, newB ⟨.lf, S.next⟩ b) := by
  cases o <;> simp only [cls, reduceCtorEq] at hc
  case slice t x lo hi mx => cases hb : allN lo hi mx <;> rw [hb] at hc <;> cases hc
  case alloc t =>
    simp only [aOp] at h ⊢
    split at h
    · cases har : Mx.ar t <;> rw [har] at h
      · cases h; exact ⟨_, rfl, rfl⟩
      · rename_i e he
        have h : allocArr P e S = some (v, S') := h
        show ∃ b, S' = newB S b ∧ allocArr P e ⟨.lf, S.next⟩ = some (v, newB ⟨.lf, S.next⟩ b)
        unfold allocArr at h ⊢
        split at h
        · simp only [o2_eq, on3_eq, ob_some, Option.some.injEq, Prod.mk.injEq] at h
          obtain ⟨g, hg, u, hu, rfl, rfl⟩ := h
          exact ⟨_, rfl, by rw [hg]; show (chk (e.zero.cells.length.beq (_ * g.size))).ob _ = _; rw [hu]; rfl⟩
        · cases h
    · cases h
  case box t x =>
    simp only [aOp] at h ⊢
    split at h
    · simp only [o2_eq, on3_eq, ob_some, Option.some.injEq, Prod.mk.injEq] at h
      obtain ⟨u, hu, rfl, rfl⟩ := h
      exact ⟨_, rfl, by simp [Option.ob, hu]⟩
    · cases h
  case makeMap t r =>
    simp only [aOp, o2_eq, on3_eq, ob_some, Option.some.injEq, Prod.mk.injEq] at h ⊢
    obtain ⟨u, hu, rfl, rfl⟩ := h
    exact ⟨_, rfl, u, hu, rfl, rfl⟩
  case buildSlice t n ps =>
    simp only [aOp, o2_eq, on3_eq, ob_some] at h ⊢
    obtain ⟨vs, hvs, h⟩ := h
    simp only [isBt] at hb
    simp only [hb, bc_false] at h ⊢
    unfold buildSliceA at h ⊢
    simp only [o2_eq, on3_eq, ob_some] at h ⊢
    obtain ⟨e, he, el, hel, g, hg, u, hu, r, hr, h⟩ := h
    cases h
    exact ⟨_, rfl, vs, hvs, e, he, el, hel, g, hg, u, hu, r, hr, rfl⟩
  case makeSlice t l c =>
    simp only [aOp, o2_eq, on3_eq, ob_some] at h ⊢
    obtain ⟨x, hx, y, hy, h⟩ := h
    unfold makeSliceA at h ⊢
    simp only [o2_eq, on3_eq, ob_some] at h ⊢
    obtain ⟨l', hl, c', hc', e, he, el, hel, g, hg, u, hu, h⟩ := h
    cases h
    exact ⟨_, rfl, x, hx, y, hy, l', hl, c', hc', e, he, el, hel, g, hg, u, hu, rfl⟩
  case call c =>
    split at hc
    all_goals first | cases hc | (rename_i f _; cases hp : polO pol f <;> simp [hp] at hc)

end
end Go.Eng
