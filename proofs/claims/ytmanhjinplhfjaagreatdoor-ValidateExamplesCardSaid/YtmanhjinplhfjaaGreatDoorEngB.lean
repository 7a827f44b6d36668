/-
Freezing, calls, and every operation together.
Iteration over maps.
Every operation of the engine describes the model's.
Regions in the order of the text; code; the whole run.
A region whose order the model draws: the engine's order stands for every order.
What an operation looks at.
What the engine does in a region that draws its order is a chain.
The engine's run describes every run of the model.
A law without arguments: where the engine's run in empty memory ends in true, the call returns true in every world, and what was there is as it was.
Known calls: what pure calls return, each computed once.
-/
import Derived.Test.YtmanhjinplhfjaaGreatDoorEngA
import Derived.LoopN
import Derived.Below
import Derived.Lib.Bytealg
set_option linter.unusedVariables false
set_option linter.unusedSimpArgs false
namespace Go.Eng
set_option linter.unusedSectionVars false
variable [Gl] [Mx]
section
variable {P : Program} {E : Gh} {S S' : St} {w : World} {T : Tm}

/-! freezing -/
noncomputable def Gh.keep (E : Gh) (b : Nat) (arr : Array Value) : Gh := { E with prot := fun k => if k = b then some arr else E.prot k }

theorem freeze_tran {n : Nat} {bb : AB} (hm : bb.mut = true) {c : List AV} {arr : Array Value} {el : TypeId} {fz : Nat × Nat} (hr : HR E S.heap.get w) (pr : PR E w) (hb : S.heap.get n = some bb)
    (hw : w.heap[E.blk n]? = some (.cells arr el fz)) (hs : E.bsz n = arr.size) (hv : VRP E c (arr.toList.drop (E.sh n))) : Tran E S.heap.get w S.next (E.keep (E.blk n) arr) (S.heap.put n (.ice c)).get w S.next := by
  have ext : Ext E (E.keep (E.blk n) arr) := ⟨fun _ h => h, fun _ _ => rfl, fun _ _ => rfl, fun _ _ => rfl, fun k a hk => by
    show (if k = E.blk n then some arr else E.prot k) = some a
    rw [if_neg (fun e => by rw [e, hr.free n _ hb hm] at hk; cases hk)]; exact hk⟩
  have old : ∀ m d, m ≠ n → (S.heap.put n (.ice c)).get m = some d → S.heap.get m = some d := fun m d e hd => by
    rw [Tr.get_put, if_neg e] at hd; exact hd
  have some' : ∀ m d, (S.heap.put n (.ice c)).get m = some d → ∃ d', S.heap.get m = some d' := fun m d hd => by
    by_cases e : m = n
    · subst e; exact ⟨_, hb⟩
    · exact ⟨d, old m d e hd⟩
  refine ⟨ext, Nat.le_refl _, fun _ d => .inl d, ⟨?_, ?_, ?_⟩, ?_, Nat.le_refl _, fun m d hd => .inl (some' m d hd), fun m d hd _ => ?_, fun _ _ _ => rfl, ?_, Env.refl w⟩
  · intro m d hd
    by_cases e : m = n
    · subst e
      rw [Tr.get_put, if_pos rfl] at hd
      cases hd
      refine ⟨(hr.blk m _ hb).1, _, hw, ?_⟩
      simp only [BR]
      exact ⟨arr, el, fz, rfl, hs, if_pos rfl, VRP.mono ext _ _ hv⟩
    · obtain ⟨dm, o, ho, hbr⟩ := hr.blk m d (old m d e hd)
      exact ⟨dm, o, ho, hbr.mono ext dm⟩
  · intro m d hd hmut
    by_cases e : m = n
    · subst e
      rw [Tr.get_put, if_pos rfl] at hd
      cases hd
      cases hmut
    · have hm := old m d e hd
      show (if E.blk m = E.blk n then some arr else E.prot (E.blk m)) = none
      rw [if_neg (fun e' => e (hr.inj m n d _ hm hb e'))]
      exact hr.free m d hm hmut
  · intro m k d d' hd hd' e
    obtain ⟨x, hx⟩ := some' m d hd
    obtain ⟨y, hy⟩ := some' k d' hd'
    exact hr.inj m k x y hx hy e
  · refine ⟨?_, fun g v hg => VR.mono ext.ice _ _ (pr.gl g v hg)⟩
    intro k a hk
    have hk' : (if k = E.blk n then some arr else E.prot k) = some a := hk
    by_cases e : k = E.blk n
    · rw [if_pos e] at hk'
      cases hk'
      exact ⟨el, fz, by rw [e]; exact hw⟩
    · rw [if_neg e] at hk'
      exact pr.blk k a hk'
  · obtain ⟨d', hd'⟩ := some' m d hd
    exact ⟨m, d', hd', rfl⟩
  · intro k _ hk
    show (if k = E.blk n then some arr else E.prot k) = E.prot k
    rw [if_neg (fun e => hk n _ hb e.symm)]

/-- one freezing -/
def FrzOk (g : St → AV → Option (AV × St)) : Prop :=
  ∀ (E : Gh) (S S' : St) (w : World) (x y : AV) (v : Value), g S x = some (y, S') → VR E x v → HR E S.heap.get w → PR E w →
    ∃ E', VR E'.ice y v ∧ S'.next = S.next ∧ Tran E S.heap.get w S.next E' S'.heap.get w S.next

theorem mapS_ok {g : St → AV → Option (AV × St)} (hg : FrzOk g) : ∀ (xs ys : List AV) (vs : List Value) (E : Gh) (S S' : St) (w : World), mapS g S xs = some (ys, S') → VRP E xs vs → HR E S.heap.get w → PR E w →
    ∃ E', VRP E'.ice ys vs ∧ ys.length = xs.length ∧ S'.next = S.next ∧ Tran E S.heap.get w S.next E' S'.heap.get w S.next
  | [], ys, vs, E, S, S', w, h, _, hr, pr => by
    simp only [mapS, Option.some.injEq, Prod.mk.injEq] at h
    obtain ⟨rfl, rfl⟩ := h
    exact ⟨E, VRP.nil, rfl, rfl, Tran.refl _ hr pr⟩
  | x :: xs, ys, [], E, S, S', w, _, hv, _, _ => by simp only [VRP] at hv
  | x :: xs, ys, v :: vs, E, S, S', w, h, hv, hr, pr => by
    simp only [mapS, o2_eq, on3_eq, ob_some, Option.some.injEq, Prod.mk.injEq] at h
    obtain ⟨⟨y, S1⟩, h1, ⟨ys', S2⟩, h2, rfl, rfl⟩ := h
    rw [VRP.cons_iff] at hv
    obtain ⟨E1, hy, hn1, t1⟩ := hg E S S1 w x y v h1 hv.1 hr pr
    obtain ⟨E2, hys, hl, hn2, t2⟩ := mapS_ok hg xs ys' vs E1 S1 S2 w h2 (VRP.mono t1.ext _ _ hv.2) t1.hr t1.pr
    rw [hn1] at t2 hn2
    exact ⟨E2, VRP.cons_iff.2 ⟨VR.mono t2.ext.ice _ _ hy, hys⟩, by simp [hl], hn2, t1.trans t2⟩

theorem frz_ok : ∀ f, FrzOk (frz f)
  | 0 => by intro E S S' w x y v h; simp [frz] at h
  | f + 1 => by
    intro E S S' w x y v h hx hr pr
    have ih := mapS_ok (frz_ok f)
    unfold frz at h
    split at h
    · rename_i n off len cap z
      rw [ob_some] at h
      obtain ⟨b, hb, h⟩ := h
      obtain ⟨_, o, ho, hbr⟩ := hr.blk n b hb
      split at h
      · rename_i c
        simp only [o2_eq, on3_eq, ob_some, Option.some.injEq, Prod.mk.injEq] at h
        obtain ⟨r, hs, ⟨r', S1⟩, hm, rfl, rfl⟩ := h
        simp only [BR] at hbr
        obtain ⟨arr, el, fz, rfl, hsz, _, hv⟩ := hbr
        obtain ⟨rfl, hl, _⟩ := sub_some hs
        have t1 := freeze_tran rfl hr pr hb ho hsz hv
        have hrel : VRP E ((c.drop off).take (len * z)) ((arr.toList.drop (E.sh n)).drop off) := VRP.take _ (VRP.drop _ hv)
        obtain ⟨E2, h2, hl2, hn2, t2⟩ := ih _ _ _ _ _ _ w hm (VRP.mono t1.ext _ _ hrel) t1.hr t1.pr
        refine ⟨E2, ?_, hn2, t1.trans t2⟩
        simp only [VR] at hx ⊢
        obtain ⟨_, k, rfl, hlk, _⟩ := hx
        refine .inl ⟨_, _, none, k, rfl, hlk, .inr ⟨rfl, arr, t2.ext.prot _ _ (if_pos rfl), ?_⟩⟩
        rw [← List.drop_drop]; exact h2
      · rename_i tt c
        simp only [o2_eq, on3_eq, ob_some, Option.some.injEq, Prod.mk.injEq] at h
        obtain ⟨r, hs, ⟨r', S1⟩, hm, rfl, rfl⟩ := h
        have hbr := hbr.untype
        simp only [BR] at hbr
        obtain ⟨arr, el, fz, rfl, hsz, _, hv⟩ := hbr
        obtain ⟨rfl, hl, _⟩ := sub_some hs
        have t1 := freeze_tran rfl hr pr hb ho hsz hv
        have hrel : VRP E ((c.drop off).take (len * z)) ((arr.toList.drop (E.sh n)).drop off) := VRP.take _ (VRP.drop _ hv)
        obtain ⟨E2, h2, hl2, hn2, t2⟩ := ih _ _ _ _ _ _ w hm (VRP.mono t1.ext _ _ hrel) t1.hr t1.pr
        refine ⟨E2, ?_, hn2, t1.trans t2⟩
        simp only [VR] at hx ⊢
        obtain ⟨_, k, rfl, hlk, _⟩ := hx
        refine .inl ⟨_, _, none, k, rfl, hlk, .inr ⟨rfl, arr, t2.ext.prot _ _ (if_pos rfl), ?_⟩⟩
        rw [← List.drop_drop]; exact h2
      · rename_i c
        simp only [o2_eq, on3_eq, ob_some, Option.some.injEq, Prod.mk.injEq] at h
        obtain ⟨r, hs, ⟨r', S1⟩, hm, rfl, rfl⟩ := h
        simp only [BR] at hbr
        obtain ⟨arr, el, fz, rfl, hsz, hp, hv⟩ := hbr
        obtain ⟨rfl, hl, _⟩ := sub_some hs
        have hrel : VRP E ((c.drop off).take (len * z)) ((arr.toList.drop (E.sh n)).drop off) := VRP.take _ (VRP.drop _ hv)
        obtain ⟨E2, h2, hl2, hn2, t2⟩ := ih _ _ _ _ _ _ w hm hrel hr pr
        refine ⟨E2, ?_, hn2, t2⟩
        simp only [VR] at hx ⊢
        obtain ⟨_, k, rfl, hlk, _⟩ := hx
        refine .inl ⟨_, _, none, k, rfl, hlk, .inr ⟨rfl, arr, t2.ext.prot _ _ hp, ?_⟩⟩
        rw [← List.drop_drop]; exact h2
      · cases h
      · cases h
    · rename_i n off
      rw [ob_some] at h
      obtain ⟨b, hb, h⟩ := h
      obtain ⟨_, o, ho, hbr⟩ := hr.blk n b hb
      split at h
      · rename_i c
        simp only [o2_eq, on3_eq, ob_some, Option.some.injEq, Prod.mk.injEq] at h
        obtain ⟨⟨r', S1⟩, hm, rfl, rfl⟩ := h
        simp only [BR] at hbr
        obtain ⟨arr, el, fz, rfl, hsz, _, hv⟩ := hbr
        have t1 := freeze_tran rfl hr pr hb ho hsz hv
        obtain ⟨E2, h2, hl2, hn2, t2⟩ := ih _ _ _ _ _ _ w hm (VRP.mono t1.ext _ _ (VRP.drop off hv)) t1.hr t1.pr
        refine ⟨E2, ?_, hn2, t1.trans t2⟩
        simp only [VR] at hx ⊢
        obtain ⟨_, rfl⟩ := hx
        refine ⟨_, _, rfl, arr, t2.ext.prot _ _ (if_pos rfl), ?_⟩
        rw [← List.drop_drop]; exact h2
      · rename_i tt c
        simp only [o2_eq, on3_eq, ob_some, Option.some.injEq, Prod.mk.injEq] at h
        obtain ⟨⟨r', S1⟩, hm, rfl, rfl⟩ := h
        have hbr := hbr.untype
        simp only [BR] at hbr
        obtain ⟨arr, el, fz, rfl, hsz, _, hv⟩ := hbr
        have t1 := freeze_tran rfl hr pr hb ho hsz hv
        obtain ⟨E2, h2, hl2, hn2, t2⟩ := ih _ _ _ _ _ _ w hm (VRP.mono t1.ext _ _ (VRP.drop off hv)) t1.hr t1.pr
        refine ⟨E2, ?_, hn2, t1.trans t2⟩
        simp only [VR] at hx ⊢
        obtain ⟨_, rfl⟩ := hx
        refine ⟨_, _, rfl, arr, t2.ext.prot _ _ (if_pos rfl), ?_⟩
        rw [← List.drop_drop]; exact h2
      · rename_i c
        simp only [o2_eq, on3_eq, ob_some, Option.some.injEq, Prod.mk.injEq] at h
        obtain ⟨⟨r', S1⟩, hm, rfl, rfl⟩ := h
        simp only [BR] at hbr
        obtain ⟨arr, el, fz, rfl, hsz, hp, hv⟩ := hbr
        obtain ⟨E2, h2, hl2, hn2, t2⟩ := ih _ _ _ _ _ _ w hm (VRP.drop off hv) hr pr
        refine ⟨E2, ?_, hn2, t2⟩
        simp only [VR] at hx ⊢
        obtain ⟨_, rfl⟩ := hx
        refine ⟨_, _, rfl, arr, t2.ext.prot _ _ hp, ?_⟩
        rw [← List.drop_drop]; exact h2
      · cases h
      · cases h
    · simp only [o2_eq, on3_eq, ob_some, Option.some.injEq, Prod.mk.injEq] at h
      obtain ⟨⟨r', S1⟩, hm, rfl, rfl⟩ := h
      simp only [VR] at hx
      obtain ⟨a, rfl, h1, h2⟩ := hx
      obtain ⟨E2, h3, hl2, hn2, t2⟩ := ih _ _ _ _ _ _ w hm h1 hr pr
      exact ⟨E2, by simp only [VR]; exact ⟨a, rfl, h3, by omega⟩, hn2, t2⟩
    · simp only [o2_eq, on3_eq, ob_some, Option.some.injEq, Prod.mk.injEq] at h
      obtain ⟨⟨r', S1⟩, hm, rfl, rfl⟩ := h
      simp only [VR] at hx
      obtain ⟨a, rfl, h1, h2⟩ := hx
      obtain ⟨E2, h3, hl2, hn2, t2⟩ := ih _ _ _ _ _ _ w hm h1 hr pr
      exact ⟨E2, by simp only [VR]; exact ⟨a, rfl, h3, by omega⟩, hn2, t2⟩
    · simp only [o2_eq, on3_eq, ob_some, Option.some.injEq, Prod.mk.injEq] at h
      obtain ⟨⟨q, S1⟩, hm, ⟨r, S2⟩, hm2, rfl, rfl⟩ := h
      simp only [VR] at hx
      obtain ⟨a, c, rfl, ⟨h1, h2⟩, h3, h4⟩ := hx
      obtain ⟨E1, a1, l1, n1, t1⟩ := ih _ _ _ _ _ _ w hm h1 hr pr
      obtain ⟨E2, a2, l2, n2, t2⟩ := ih _ _ _ _ _ _ w hm2 (VRP.mono t1.ext _ _ h3) t1.hr t1.pr
      rw [n1] at n2 t2
      refine ⟨E2, ?_, n2, t1.trans t2⟩
      simp only [VR]
      exact ⟨a, c, rfl, ⟨VRP.mono t2.ext.ice _ _ a1, by omega⟩, a2, by omega⟩
    · simp only [o2_eq, on3_eq, ob_some, Option.some.injEq, Prod.mk.injEq] at h
      obtain ⟨⟨q, S1⟩, hm, rfl, rfl⟩ := h
      simp only [VR] at hx
      obtain ⟨a, rfl, h1⟩ := hx
      obtain ⟨E2, h3, hn2, t2⟩ := frz_ok f _ _ _ w _ _ _ hm h1 hr pr
      exact ⟨E2, by simp only [VR]; exact ⟨a, rfl, h3⟩, hn2, t2⟩
    · cases h
      simp only [VR] at hx
      subst hx
      exact ⟨E, by simp [VR], rfl, Tran.refl _ hr pr⟩
    · cases h
    · cases h
    · rename_i h1 h2 h3 h4 h5 h6 h7 h8 h9
      cases h
      refine ⟨E, ?_, rfl, Tran.refl _ hr pr⟩
      cases x <;> first | exact hx | (exfalso; first | exact h1 _ _ _ _ _ rfl | exact h2 _ _ rfl | exact h3 _ rfl | exact h4 _ rfl | exact h5 _ _ _ rfl | exact h6 _ _ rfl | exact h7 rfl | exact h8 _ rfl | exact h9 _ _ _ rfl)

/-- one freezing that may leave names -/
def FrzOk2 (g : St → AV → Option (AV × St)) : Prop :=
  ∀ (E : Gh) (S S' : St) (w : World) (x y : AV) (v : Value), g S x = some (y, S') → VR E x v → HR E S.heap.get w → PR E w →
    ∃ E', VR E' y v ∧ S'.next = S.next ∧ Tran E S.heap.get w S.next E' S'.heap.get w S.next
theorem mapS_ok2 {g : St → AV → Option (AV × St)} (hg : FrzOk2 g) : ∀ (xs ys : List AV) (vs : List Value) (E : Gh) (S S' : St) (w : World), mapS g S xs = some (ys, S') → VRP E xs vs → HR E S.heap.get w → PR E w →
    ∃ E', VRP E' ys vs ∧ ys.length = xs.length ∧ S'.next = S.next ∧ Tran E S.heap.get w S.next E' S'.heap.get w S.next
  | [], ys, vs, E, S, S', w, h, _, hr, pr => by
    simp only [mapS, Option.some.injEq, Prod.mk.injEq] at h
    obtain ⟨rfl, rfl⟩ := h
    exact ⟨E, VRP.nil, rfl, rfl, Tran.refl _ hr pr⟩
  | x :: xs, ys, [], E, S, S', w, _, hv, _, _ => by simp only [VRP] at hv
  | x :: xs, ys, v :: vs, E, S, S', w, h, hv, hr, pr => by
    simp only [mapS, o2_eq, on3_eq, ob_some, Option.some.injEq, Prod.mk.injEq] at h
    obtain ⟨⟨y, S1⟩, h1, ⟨ys', S2⟩, h2, rfl, rfl⟩ := h
    rw [VRP.cons_iff] at hv
    obtain ⟨E1, hy, hn1, t1⟩ := hg E S S1 w x y v h1 hv.1 hr pr
    obtain ⟨E2, hys, hl, hn2, t2⟩ := mapS_ok2 hg xs ys' vs E1 S1 S2 w h2 (VRP.mono t1.ext _ _ hv.2) t1.hr t1.pr
    rw [hn1] at t2 hn2
    exact ⟨E2, VRP.cons_iff.2 ⟨VR.mono t2.ext _ _ hy, hys⟩, by simp [hl], hn2, t1.trans t2⟩
theorem frzK_ok : FrzOk2 frzK := by
  intro E S S' w x y v h hx hr pr
  unfold frzK at h
  split at h
  · obtain ⟨E', h1, h2, h3⟩ := frz_ok _ E S S' w _ y v h hx hr pr
    exact ⟨E', VR.mono (Ext.ofIce E') _ _ h1, h2, h3⟩
  · cases h
    exact ⟨E, hx, rfl, Tran.refl _ hr pr⟩
theorem frzS_ok : FrzOk2 frzS := by
  intro E S S' w x y v h hx hr pr
  simp only [frzS, Option.some.injEq, Prod.mk.injEq] at h
  obtain ⟨rfl, rfl⟩ := h
  exact ⟨E, hx, rfl, Tran.refl _ hr pr⟩
theorem frzT_ok (b : Bool) : FrzOk2 (frzT b) := by
  cases b with
  | false => exact frzS_ok
  | true =>
    intro E S S' w x y v h hx hr pr
    obtain ⟨E', h1, h2, h3⟩ := frz_ok _ E S S' w _ y v h hx hr pr
    exact ⟨E', VR.mono (Ext.ofIce E') _ _ h1, h2, h3⟩
theorem frzP_ok : ∀ (xs ys : List (Nat × AV)) (vs : List (Nat × Value)) (E : Gh) (S S' : St) (w : World), frzP S xs = some (ys, S') → PartsR E xs vs → HR E S.heap.get w → PR E w →
    ∃ E', PartsR E' ys vs ∧ S'.next = S.next ∧ Tran E S.heap.get w S.next E' S'.heap.get w S.next
  | [], ys, vs, E, S, S', w, h, hv, hr, pr => by
    simp only [frzP, Option.some.injEq, Prod.mk.injEq] at h
    obtain ⟨rfl, rfl⟩ := h
    exact ⟨E, hv, rfl, Tran.refl _ hr pr⟩
  | x :: xs, ys, [], E, S, S', w, _, hv, _, _ => by simp only [PartsR] at hv
  | x :: xs, ys, v :: vs, E, S, S', w, h, hv, hr, pr => by
    simp only [frzP, o2_eq, on3_eq, ob_some, Option.some.injEq, Prod.mk.injEq] at h
    obtain ⟨⟨y, S1⟩, h1, ⟨ys', S2⟩, h2, rfl, rfl⟩ := h
    simp only [PartsR] at hv ⊢
    obtain ⟨E1, hy, hn1, t1⟩ := frzT_ok true E S S1 w x.2 y v.2 h1 hv.2.1 hr pr
    obtain ⟨E2, hys, hn2, t2⟩ := frzP_ok xs ys' vs E1 S1 S2 w h2 (PartsR.mono t1.ext _ _ hv.2.2) t1.hr t1.pr
    rw [hn1] at t2 hn2
    exact ⟨E2, ⟨hv.1, VR.mono t2.ext _ _ hy, hys⟩, hn2, t1.trans t2⟩
theorem frzM_ok (m : Nat → Bool) : ∀ (xs ys : List AV) (i : Nat) (vs : List Value) (E : Gh) (S S' : St) (w : World), frzM m i S xs = some (ys, S') → VRP E xs vs → HR E S.heap.get w → PR E w →
    ∃ E', VRP E' ys vs ∧ ys.length = xs.length ∧ S'.next = S.next ∧ Tran E S.heap.get w S.next E' S'.heap.get w S.next
  | [], ys, i, vs, E, S, S', w, h, _, hr, pr => by
    simp only [frzM, Option.some.injEq, Prod.mk.injEq] at h
    obtain ⟨rfl, rfl⟩ := h
    exact ⟨E, VRP.nil, rfl, rfl, Tran.refl _ hr pr⟩
  | x :: xs, ys, i, [], E, S, S', w, _, hv, _, _ => by simp only [VRP] at hv
  | x :: xs, ys, i, v :: vs, E, S, S', w, h, hv, hr, pr => by
    simp only [frzM, o2_eq, on3_eq, ob_some, Option.some.injEq, Prod.mk.injEq] at h
    obtain ⟨⟨y, S1⟩, h1, ⟨ys', S2⟩, h2, rfl, rfl⟩ := h
    rw [VRP.cons_iff] at hv
    obtain ⟨E1, hy, hn1, t1⟩ := frzT_ok (m i) E S S1 w x y v h1 hv.1 hr pr
    obtain ⟨E2, hys, hl, hn2, t2⟩ := frzM_ok m xs ys' (i + 1) vs E1 S1 S2 w h2 (VRP.mono t1.ext _ _ hv.2) t1.hr t1.pr
    rw [hn1] at t2 hn2
    exact ⟨E2, VRP.cons_iff.2 ⟨VR.mono t2.ext _ _ hy, hys⟩, by simp [hl], hn2, t1.trans t2⟩
theorem fzArgs_ok {g : FuncId} {xs ys : List AV} {vs : List Value} (h : fzArgs g S xs = some (ys, S')) (hv : VRP E xs vs) (hr : HR E S.heap.get w) (pr : PR E w) :
    ∃ E', VRP E' ys vs ∧ ys.length = xs.length ∧ S'.next = S.next ∧ Tran E S.heap.get w S.next E' S'.heap.get w S.next := by
  unfold fzArgs at h
  split at h
  · simp only [Option.some.injEq, Prod.mk.injEq] at h
    obtain ⟨rfl, rfl⟩ := h
    exact ⟨E, hv, rfl, rfl, Tran.refl _ hr pr⟩
  · exact frzM_ok _ _ _ _ _ _ _ _ _ h hv hr pr
theorem flat_VR {E E' : Gh} {q : AV} {v : Value} (hf : flat q = true) (h : VR E q v) : VR E' q v := by
  cases q <;> simp only [flat, Bool.false_eq_true] at hf <;> exact h
theorem flat_VRP {E E' : Gh} : ∀ (l : List AV) (vs : List Value), l.all flat = true → VRP E l vs → VRP E' l vs
  | [], _, _, _ => VRP.nil
  | _ :: _, [], _, h => by simp only [VRP] at h
  | x :: l, v :: vs, hf, h => by
    rw [List.all_cons, Bool.and_eq_true] at hf
    rw [VRP.cons_iff] at h ⊢
    exact ⟨flat_VR hf.1 h.1, flat_VRP l vs hf.2 h.2⟩
theorem flatT_VR {E E' : Gh} {b : Bool} {q : AV} {v : Value} (hf : (flat q || (b && flatT q)) = true) (h : VR E q v) : VR E' q v := by
  rw [Bool.or_eq_true, Bool.and_eq_true] at hf
  rcases hf with hf | ⟨_, hf⟩
  · exact flat_VR hf h
  · cases q <;> simp only [flatT, Bool.false_eq_true] at hf
    simp only [VR] at h ⊢
    obtain ⟨a, h1, h2, h3⟩ := h
    exact ⟨a, h1, flat_VRP _ _ hf h2, h3⟩

theorem append_does {t u : TypeId} {x y z : AV} {xv yv : Value} (ty : TypeId) {ue : TE} (hue : te P u = some ue) (hui : ∀ k, ue.und ≠ .int k) (h : appendA P S t x y = some (z, S')) (hx : VR E x xv) (hy : VR E y yv)
    (hr : HR E S.heap.get w) (pr : PR E w) (fresh : ∀ n, S.next ≤ n → n < S'.next → ¬ E.dom n) : DoesV P (Builtin.append_ #[t, u] ty #[xv, yv]) E S w z S' := by
  simp only [appendA, o2_eq, on3_eq, ob_some, chk_some, Bool.and_eq_true, nbeq_iff] at h
  obtain ⟨e, he, elem, hel, g, hg, _, ⟨hgz, hgn⟩, new, hnew, m, hm, _, hone, h⟩ := h
  obtain ⟨us, hfirst, hlen, hrel, hus, hnl⟩ := src_rel (P := P) hnew hm hy hr pr
  exact grow_does (P := P) ty hue hui he hel hg hgz hgn hfirst hlen hrel hus hnl hone h hx hr pr fresh

theorem min_bc (a b : Nat) : bc (Nat.ble a b) a b = Nat.min a b := by
  by_cases h : a ≤ b
  · rw [nble_iff.2 h, bc_true]; exact (Nat.min_eq_left h).symm
  · have hb : Nat.ble a b = false := by
      cases hb : Nat.ble a b with
      | false => rfl
      | true => exact absurd (nble_iff.1 hb) h
    rw [hb, bc_false]; exact (Nat.min_eq_right (by omega)).symm

theorem trunc_rel {n m : Nat} {x y : AV} {v : Value} (h : truncA n x = some y) (hm : lenOfA x = some m) (hn : n ≤ m) (hx : VR E x v) : ∃ v', VR E y v' ∧ (lenOfA y = some n ∨ (y = .nils ∧ n = 0)) ∧
    (∀ size, Builtin.firstCells size n v = Builtin.firstCells size n v') ∧ (Builtin.lenOf v).run P w = .ok m w := by
  cases x <;> simp only [truncA, Option.some.injEq, reduceCtorEq] at h
  case nils =>
    subst h
    simp only [lenOfA, Option.some.injEq] at hm
    simp only [VR] at hx
    subst hx hm
    exact ⟨_, by simp only [VR], .inr ⟨rfl, by omega⟩, fun _ => rfl, rfl⟩
  case ms b o l c z =>
    subst h
    simp only [lenOfA, Option.some.injEq] at hm
    subst hm
    simp only [VR] at hx
    obtain ⟨d, k, rfl, h1, h2⟩ := hx
    exact ⟨.slice (some ⟨E.blk b, E.sh b + o, none⟩) n k, by simp only [VR]; exact ⟨d, k, rfl, by omega, h2⟩, .inl rfl, fun _ => rfl, rfl⟩
  case fs cs l =>
    subst h
    simp only [lenOfA, Option.some.injEq] at hm
    subst hm
    simp only [VR] at hx
    rcases hx with ⟨b, o, sp, c, rfl, h1, h2⟩ | ⟨rfl, rfl, rfl⟩
    · exact ⟨.slice (some ⟨b, o, sp⟩) n c, by simp only [VR]; exact .inl ⟨b, o, sp, c, rfl, by omega, h2⟩, .inl rfl, fun _ => rfl, rfl⟩
    · obtain rfl : n = 0 := by omega
      exact ⟨.slice none 0 0, by simp [VR], .inl rfl, fun _ => rfl, rfl⟩

theorem copy_does {t u : TypeId} {x y z : AV} {xv yv : Value} (ty : TypeId) (h : copyA P S t x y = some (z, S')) (hx : VR E x xv) (hy : VR E y yv)
    (hr : HR E S.heap.get w) (pr : PR E w) : DoesV P (Builtin.copy_ #[t, u] ty #[xv, yv]) E S w z S' := by
  simp only [copyA, o2_eq, on3_eq, ob_some, chk_some, min_bc] at h
  obtain ⟨e, he, elem, hel, g, hg, dl, hdl, sl, hsl, y', hy', new, hnew, _, hone, h⟩ := h
  have hle : Nat.min sl dl ≤ sl := Nat.min_le_left _ _
  obtain ⟨yv', hyv, hln, hfc, hlen⟩ := trunc_rel (P := P) (w := w) hy' hsl hle hy
  have hln : lenOfA y' = some (Nat.min sl dl) := by
    rcases hln with h | ⟨rfl, h⟩
    · exact h
    · rw [h]; rfl
  obtain ⟨us, hfirst, _, hrel, hus, hnl⟩ := src_rel (P := P) hnew hln hyv hr pr
  generalize hn : Nat.min sl dl = n at *
  have hund := sliceOf_some hel
  unfold copyTo at h
  split at h
  · simp only [Option.some.injEq, Prod.mk.injEq] at h
    obtain ⟨rfl, rfl⟩ := h
    simp only [lenOfA, Option.some.injEq] at hdl
    simp only [VR] at hx
    subst hx hdl
    refine DoesV.same hr pr (v' := goInt n) ?_ (by simp only [VR]; rfl)
    simp only [Builtin.copy_, List.getElem?_toArray, List.getElem?_cons_zero, List.getElem?_cons_succ, Sem.run_bind, r_und he, hund, Result.andThen_ok, r_size hg, Sem.run_pure, hlen, hn, hfc, hfirst w rfl]
  · rename_i cs
    simp only [Option.some.injEq, Prod.mk.injEq] at h
    obtain ⟨rfl, rfl⟩ := h
    simp only [lenOfA, Option.some.injEq] at hdl
    subst hdl
    obtain rfl : n = 0 := by rw [← hn]; exact Nat.min_zero _
    obtain rfl : us = #[] := by apply Array.eq_empty_of_size_eq_zero; omega
    have hx : ∃ b c, xv = .slice b 0 c := by
      simp only [VR] at hx
      rcases hx with ⟨b, o, sp, c, rfl, _⟩ | ⟨_, _, rfl⟩
      · exact ⟨_, _, rfl⟩
      · exact ⟨_, _, rfl⟩
    obtain ⟨b, c, rfl⟩ := hx
    refine DoesV.same hr pr (v' := goInt 0) ?_ (by simp only [VR]; rfl)
    cases b with
    | none => simp only [Builtin.copy_, List.getElem?_toArray, List.getElem?_cons_zero, List.getElem?_cons_succ, Sem.run_bind, r_und he, hund, Result.andThen_ok, r_size hg, Sem.run_pure, hlen, hn, hfc, hfirst w rfl]; rfl
    | some a => simp only [Builtin.copy_, List.getElem?_toArray, List.getElem?_cons_zero, List.getElem?_cons_succ, Sem.run_bind, r_und he, hund, Result.andThen_ok, r_size hg, Sem.run_pure, hlen, hn, hfc, hfirst w rfl]; rfl
  · rename_i b off l c z'
    simp only [o2_eq, on3_eq, ob_some, chk_some, nbeq_iff, Option.some.injEq, Prod.mk.injEq] at h
    obtain ⟨_, rfl, cs, hcs, r, ho, rfl, rfl⟩ := h
    simp only [lenOfA, Option.some.injEq] at hdl
    subst hdl
    simp only [VR] at hx
    obtain ⟨d, k, rfl, h1, h2⟩ := hx
    obtain ⟨w', hrun, ht⟩ := over_does (P := P) (h' := (S.heap.put b (.cells r)).get) hcs ho hrel (by simpa using hus) hone hr pr (fun m => by rw [Tr.get_put]) S.next
    refine ⟨goInt n, w', E, ?_, by simp only [VR]; rfl, ht⟩
    simp only [Builtin.copy_, List.getElem?_toArray, List.getElem?_cons_zero, List.getElem?_cons_succ, Sem.run_bind, r_und he, hund, Result.andThen_ok, r_size hg, Sem.run_pure, hlen, hn, hfc, hfirst w rfl, hrun]
  · cases h

theorem data_does {x v : AV} {xv : Value} (ts : Array TypeId) (ty : TypeId) (h : dataA x = some v) (hx : VR E x xv) (hr : HR E S.heap.get w) (pr : PR E w) : DoesV P (Builtin.unsafeSliceData_ ts ty #[xv]) E S w v S := by
  unfold dataA at h
  split at h
  · rename_i n off len cap z
    cases h
    simp only [VR] at hx
    obtain ⟨d, c, rfl, h1, _⟩ := hx
    exact DoesV.same hr pr (Lib.run_unsafeSliceData_row w ts ty _ _ c (by omega)) (by simp only [VR]; exact ⟨d, trivial⟩)
  · cases h

theorem loadBytes_rel : ∀ {cs : List AV} {bs : List UInt8} {us : List Value} {a : Addr} (acc : ByteArray), bytesOfA cs = some bs → VRP E cs us → cs.length ≤ us.length → (∀ j u, us[j]? = some u → w.cell? (a.add j) = some u) →
    (loadBytes a acc cs.length).run P w = .ok ⟨acc.data ++ bs.toArray⟩ w
  | [], bs, us, a, acc, h, _, _, _ => by
    cases h
    simp [loadBytes]
  | x :: cs, bs, [], a, acc, _, _, hl, _ => by simp at hl
  | x :: cs, bs, u :: us, a, acc, h, hv, hl, hc => by
    unfold bytesOfA at h
    split at h
    · cases ‹_ :: _ = []›
    · rename_i n r heq
      injection heq with e1 e2
      subst e1 e2
      simp only [o2_eq, on3_eq, ob_some, Option.some.injEq] at h
      obtain ⟨bs, hb, rfl⟩ := h
      obtain ⟨h1, h2⟩ := VRP.cons_iff.1 hv
      simp only [VR] at h1
      subst h1
      have h0 : w.cell? a = some (.int .u8 n) := by
        have := hc 0 _ rfl
        simpa [Addr.add] using this
      have ih := loadBytes_rel (a := a.add 1) (acc.push (UInt8.ofNat n.toNat)) hb h2 (by simpa using hl) (fun j y hy => by
        have := hc (j + 1) y (by simpa using hy)
        have e : (a.add 1).add j = a.add (j + 1) := by
          unfold Addr.add
          by_cases hj : j = 0
          · subst hj; simp
          · simp [hj]; omega
        rw [e]; exact this)
      have hx : n.toNat.toUInt8 = UInt8.ofNat n.toNat := rfl
      simp only [List.length_cons, loadBytes, Sem.run_bind, run_load, h0, Result.andThen, hx]
      rw [ih]
      congr 1
      apply ByteArray.ext
      simp [ByteArray.push]
    · cases h

theorem ustr_does {pt it ty : TypeId} {x y v : AV} {xv yv : Value} (h : ustrA P S pt x y = some (v, S')) (hx : VR E x xv) (hy : VR E y yv) (hr : HR E S.heap.get w) (pr : PR E w) : DoesV P (Builtin.unsafeString_ #[pt, it] ty #[xv, yv]) E S w v S' := by
  unfold ustrA at h
  split at h
  · rename_i n m
    rw [ob_some] at h
    obtain ⟨e, he, h⟩ := h
    split at h
    · rename_i el hd
      simp only [o2_eq, on3_eq, ob_some, chk_some, Bool.and_eq_true, nbeq_iff, nblt_iff, nble_iff, Option.some.injEq, Prod.mk.injEq] at h
      obtain ⟨cs, hcs, _, ⟨⟨⟨⟨ht, hc1⟩, hm0⟩, hm1⟩, hm2⟩, bs, hbs, rfl, rfl⟩ := h
      obtain ⟨arr, fz, hw, h0, _, _, hv⟩ := typed_obj ht hcs hr
      have hl := hv.len
      simp at hl
      simp only [VR] at hx hy
      obtain ⟨dn, rfl⟩ := hx
      subst hy
      obtain ⟨b, hb, hbm, _⟩ := cellsOf_some hcs
      have hlt := hr.lt hb
      have hwf : ∃ o, (w.freeze ⟨E.blk n, 0, none⟩ m).heap = w.heap.setIfInBounds (E.blk n) o ∧ Env w (w.freeze ⟨E.blk n, 0, none⟩ m) := by
        unfold World.freeze
        rw [if_neg (by omega)]
        refine ⟨.cells arr el (if fz.1 == fz.2 then (0, 0 + m) else (min fz.1 0, max fz.2 (0 + m))), ?_, rfl, rfl, rfl⟩
        · dsimp only
          apply Array.ext_getElem?
          intro i
          rw [Array.getElem?_modify, Array.getElem?_setIfInBounds]
          by_cases ei : E.blk n = i
          · rw [if_pos ei, if_pos ei, ← ei, hw, if_pos hlt]
            rfl
          · rw [if_neg ei, if_neg ei]
      obtain ⟨o, hfo, henv⟩ := hwf
      refine ⟨.string ⟨bs.toArray⟩, w.freeze ⟨E.blk n, 0, none⟩ m, E, ?_, by simp only [VR], Tran.drop S.next hr pr hb hbm hfo henv (fun k => by rw [Tr.get_del])⟩
      have hlb := loadBytes_rel (P := P) (E := E) (w := w) (a := ⟨E.blk n, 0, none⟩) (us := arr.toList) ByteArray.empty hbs (VRP.take m hv) (by simp; omega) (fun j u hu => by
        rw [add_mk, Nat.zero_add, cell_at hw]
        simpa using hu)
      have e0 : (⟨E.blk n, E.sh n + 0, none⟩ : Addr) = ⟨E.blk n, 0, none⟩ := by rw [h0]
      rw [e0]
      have hml : (cs.take m).length = m := by rw [List.length_take]; omega
      rw [hml] at hlb
      have hlies := Lib.liesAt_bytes (P := P) hc1 (arr.size / P.cellsOf el) m (by rw [hc1]; simp; omega)
      have hdef : Builtin.unsafeString_ #[pt, it] ty #[.pointer (some ⟨E.blk n, 0, none⟩), .int .i64 (Int.ofNat m)] =
          (do
            let n0 ← asInt (.int .i64 (Int.ofNat m))
            if n0 < 0 then runtimePanic (.error "unsafe.String: len out of range")
            if n0 > IntKind.i64.max then unsupported (.unsafePointer "String: a length above the largest int")
            if n0 = 0 then pure (.string .empty)
            else if ← variablesAt ⟨E.blk n, 0, none⟩ (← elemOf pt) n0.toNat then do
              let s ← loadBytes ⟨E.blk n, 0, none⟩ .empty n0.toNat
              freeze ⟨E.blk n, 0, none⟩ n0.toNat
              pure (.string s)
            else unsupported (.unsafePointer "String: not so many bytes at ptr")) := rfl
      rw [hdef]
      have hmax : IntKind.i64.max = 9223372036854775807 := rfl
      have hneg : ¬ ((m : Int) < 0) := by omega
      have h63 : ¬ (9223372036854775807 : Int) < (m : Int) := by unfold big at hm2; omega
      have hm0' : ¬ m = 0 := by omega
      obtain ⟨_, _, up, _⟩ := te_some he
      rw [hd] at up
      simp [asInt, asIntOf, hmax, h63, hneg, hm0', variablesAt, shape_of hw, elemOf, run_underlying up, hlies, hlb]
    · cases h
  · cases h

/-! the rest of a run -/
def XR : X → Exit → Prop
  | .n, e => e = .normal
  | .e id, e => e = .exit id
  | .r, e => e = .ret

def RecOk (P : Program) (rec : RunT) : Prop :=
  ∀ nt c T S rs, rec nt c T S = some rs → ∀ E a w, TR E nt T.get a → HR E S.heap.get w → PR E w → (∀ r ∈ rs, ∀ n, S.next ≤ n → n < r.2.2.next → ¬ E.dom n) → a.defers = [] →
    c.wp P (fun e a' w' => ∃ r ∈ rs, ∃ E', XR r.1 e ∧ TR E' nt r.2.1.get a' ∧ a'.defers = [] ∧ Tran E S.heap.get w S.next E' r.2.2.heap.get w' r.2.2.next) a w
theorem same_sames : (∀ a b : AV, same a b = true → a = b) ∧ (∀ a b : List AV, sames a b = true → a = b) := by
  have main : ∀ n : Nat, (∀ a b : AV, SizeOf.sizeOf a ≤ n → same a b = true → a = b) ∧ (∀ a b : List AV, SizeOf.sizeOf a ≤ n → sames a b = true → a = b) := by
    intro n
    induction n with
    | zero =>
      refine ⟨fun a b hn h => ?_, fun a b hn h => ?_⟩
      · cases a <;> simp at hn
      · cases a <;> simp at hn
    | succ n ih =>
      refine ⟨fun a b hn h => ?_, fun a b hn h => ?_⟩
      · cases a <;> cases b <;> simp only [same, Bool.false_eq_true, Bool.and_eq_true, decide_eq_true_eq, beq_iff_eq, nbeq_iff] at h
        case bool.bool => rw [h]
        case int.int => rw [h.1, h.2]
        case str.str => rw [sameB_str h]
        case nilp.nilp => rfl
        case mp.mp => rw [h.1, h.2]
        case pa.pa => obtain ⟨⟨rfl, rfl⟩, rfl⟩ := h; rfl
        case fp.fp => rw [ih.2 _ _ (by simp at hn; omega) h]
        case nils.nils => rfl
        case ms.ms => obtain ⟨⟨⟨⟨rfl, rfl⟩, rfl⟩, rfl⟩, rfl⟩ := h; rfl
        case fs.fs => rw [h.1, ih.2 _ _ (by simp at hn; omega) h.2]
        case nilm.nilm => rfl
        case map.map => rw [h]
        case nilf.nilf => rfl
        case func.func => rw [h.1.1, ih.2 _ _ (by simp at hn; omega) h.1.2, ih.2 _ _ (by simp at hn; omega) h.2]
        case nili.nili => rfl
        case iface.iface => rw [h.1, ih.1 _ _ (by simp at hn; omega) h.2]
        case agg.agg => rw [ih.2 _ _ (by simp at hn; omega) h]
        case adr.adr => obtain ⟨rfl, rfl⟩ := h; rfl
        case tup.tup => rw [ih.2 _ _ (by simp at hn; omega) h]
      · cases a <;> cases b <;> simp only [sames, Bool.false_eq_true, Bool.and_eq_true] at h
        · rfl
        · rw [ih.1 _ _ (by simp at hn; omega) h.1, ih.2 _ _ (by simp at hn; omega) h.2]
  exact ⟨fun a b => (main (SizeOf.sizeOf a)).1 a b (Nat.le_refl _), fun a b => (main (SizeOf.sizeOf a)).2 a b (Nat.le_refl _)⟩

theorem mapO_mem {α β : Type} {f : α → Option β} : ∀ {l : List α} {rs : List β}, mapO f l = some rs → ∀ r ∈ rs, ∃ x ∈ l, f x = some r
  | [], rs, h, r, hr => by cases h; cases hr
  | x :: xs, rs, h, r, hr => by
    simp only [mapO, o2_eq, on3_eq, ob_some, Option.some.injEq] at h
    obtain ⟨y, hy, ys, hys, rfl⟩ := h
    rcases List.mem_cons.1 hr with rfl | hr
    · exact ⟨x, by simp, hy⟩
    · obtain ⟨z, hz, e⟩ := mapO_mem hys r hr
      exact ⟨z, by simp [hz], e⟩
theorem mapO_all {α β : Type} {f : α → Option β} : ∀ {l : List α} {rs : List β}, mapO f l = some rs → ∀ x ∈ l, ∃ r ∈ rs, f x = some r
  | [], rs, h, r, hr => by cases hr
  | x :: xs, rs, h, r, hr => by
    simp only [mapO, o2_eq, on3_eq, ob_some, Option.some.injEq] at h
    obtain ⟨y, hy, ys, hys, rfl⟩ := h
    rcases List.mem_cons.1 hr with rfl | hr
    · exact ⟨y, by simp, hy⟩
    · obtain ⟨z, hz, e⟩ := mapO_all hys r hr
      exact ⟨z, by simp [hz], e⟩
theorem catO_mem {α β : Type} {f : α → Option (List β)} : ∀ {l : List α} {rs : List β}, catO f l = some rs → ∀ r ∈ rs, ∃ x ∈ l, ∃ q, f x = some q ∧ r ∈ q
  | [], rs, h, r, hr => by cases h; cases hr
  | x :: xs, rs, h, r, hr => by
    simp only [catO, o2_eq, on3_eq, ob_some, Option.some.injEq] at h
    obtain ⟨y, hy, ys, hys, rfl⟩ := h
    rcases List.mem_append.1 hr with hr | hr
    · exact ⟨x, by simp, y, hy, hr⟩
    · obtain ⟨z, hz, e⟩ := catO_mem hys r hr
      exact ⟨z, by simp [hz], e⟩
theorem catO_all {α β : Type} {f : α → Option (List β)} : ∀ {l : List α} {rs : List β}, catO f l = some rs → ∀ x ∈ l, ∃ q, f x = some q ∧ ∀ r ∈ q, r ∈ rs
  | [], rs, h, r, hr => by cases hr
  | x :: xs, rs, h, r, hr => by
    simp only [catO, o2_eq, on3_eq, ob_some, Option.some.injEq] at h
    obtain ⟨y, hy, ys, hys, rfl⟩ := h
    rcases List.mem_cons.1 hr with rfl | hr
    · exact ⟨y, hy, fun r h => by simp [h]⟩
    · obtain ⟨q, e, hq⟩ := catO_all hys r hr
      exact ⟨q, e, fun r h => by simp [hq r h]⟩

theorem argsT_get : ∀ (vs : List AV) (i t : Nat), (argsT vs i).get t = if i ≤ t then vs[t - i]? else none
  | [], i, t => by simp [argsT]
  | v :: vs, i, t => by
    simp only [argsT, Tr.get_put, argsT_get vs (i + 1) t]
    by_cases e : t = i
    · subst e; simp
    · rw [if_neg e]
      by_cases h : i + 1 ≤ t
      · rw [if_pos h, if_pos (by omega), show t - i = (t - (i + 1)) + 1 from by omega, List.getElem?_cons_succ]
      · rw [if_neg h, if_neg (by omega)]

theorem res_run {T' : Tm} {S' : St} {nt : Nat} {a : Act} (ht : TR E nt T'.get a) (hr : HR E S'.heap.get w) (pr : PR E w) : ∀ {rs : List ResultVar} {vs : List AV}, ressA P T' S' rs = some vs →
    ∃ us : List Value, (rs.mapM fun (r : ResultVar) => match r with
      | .tmp t => pure (a.tmps.getD t undef)
      | .cell p t => do loadVar t (← asAddr (a.tmps.getD p undef))).run P w = .ok us w ∧ VRP E vs us ∧ vs.length = us.length
  | [], vs, h => by
    simp only [ressA, Option.some.injEq] at h
    subst h
    exact ⟨[], rfl, VRP.nil, rfl⟩
  | r :: rs, vs, h => by
    simp only [ressA, o2_eq, on3_eq, ob_some, Option.some.injEq] at h
    obtain ⟨v, hv, vs', hvs, rfl⟩ := h
    obtain ⟨us, h1, h2, h3⟩ := res_run ht hr pr hvs
    have get : ∀ t x, T'.get t = some x → ∃ u, a.tmps.getD t undef = u ∧ VR E x u := fun t x hx => by
      obtain ⟨u, hu, hxu⟩ := ht.2 t x hx
      exact ⟨u, by simp [Array.getD_eq_getD_getElem?, hu], hxu⟩
    unfold resA at hv
    split at hv
    · rename_i t
      obtain ⟨u, hu, hxu⟩ := get t v hv
      refine ⟨u :: us, ?_, VRP.cons_iff.2 ⟨hxu, h2⟩, by simp [h3]⟩
      rw [List.mapM_cons, Sem.run_bind]
      simp only [hu, Sem.run_pure, Result.andThen_ok, Sem.run_bind, h1]
    · rename_i p t
      simp only [o2_eq, on3_eq, ob_some] at hv
      obtain ⟨e, he, q, hq, hl⟩ := hv
      obtain ⟨u, hu, hqu⟩ := get p q hq
      obtain ⟨ad, u', rfl, hrun, hvv⟩ := load_run he hl hqu hr pr
      refine ⟨u' :: us, ?_, VRP.cons_iff.2 ⟨hvv, h2⟩, by simp [h3]⟩
      rw [List.mapM_cons, Sem.run_bind]
      have hadr : (asAddr (a.tmps.getD p undef)).run P w = .ok ad w := by rw [hu]; rfl
      simp only [Sem.run_bind, hadr, Sem.run_pure, Result.andThen_ok, hrun, h1]

theorem results_run {T' : Tm} {S' : St} {nt : Nat} {a : Act} {fn : Func} {vs : List AV} (ht : TR E nt T'.get a) (hr : HR E S'.heap.get w) (pr : PR E w) (h : ressA P T' S' fn.results.toList = some vs) :
    ∃ v, (results fn a.tmps).run P w = .ok v w ∧ VR E (tupR vs) v := by
  obtain ⟨us, h1, h2, h3⟩ := res_run ht hr pr h
  have hm : (fn.results.mapM fun (r : ResultVar) => match r with
      | .tmp t => pure (a.tmps.getD t undef)
      | .cell p t => do loadVar t (← asAddr (a.tmps.getD p undef))).run P w = .ok us.toArray w := by
    rw [Array.mapM_eq_mapM_toList, Sem.run_map, h1]; rfl
  refine ⟨if h : us.toArray.size = 1 then us.toArray[0] else .tuple us.toArray, ?_, ?_⟩
  · unfold results
    rw [Sem.run_bind]
    refine Eq.trans (congrArg (fun r : Result (Array Value) => r.andThen _) hm) ?_
    rfl
  · match vs, us, h2, h3 with
    | [x], [u], h2, _ => rw [VRP.cons_iff] at h2; exact h2.1
    | [], [], _, _ => simp only [tupR, VR]; exact ⟨#[], rfl, VRP.nil, rfl⟩
    | x :: y :: xs, u :: u' :: us, h2, h3 =>
      simp only [tupR, VR]
      exact ⟨_, by simp, h2, by simpa using h3⟩
    | [], _ :: _, _, h3 => simp at h3
    | _ :: _, [], _, h3 => simp at h3
    | [_], _ :: _ :: _, _, h3 => simp at h3
    | _ :: _ :: _, [_], _, h3 => simp at h3

/-- what a call does -/
def CallOk (P : Program) (E : Gh) (S : St) (w : World) (f : FuncId) (args : Array Value) (v : AV) (S' : St) : Prop :=
  Calls P f args w fun e w' => ∃ v' E', e = .returned v' ∧ VR E' v v' ∧ Tran E S.heap.get w S.next E' S'.heap.get w' S'.next

theorem sameMs_eq : ∀ {a b : List ME}, sameMs a b = true → a = b
  | [], [], _ => rfl
  | [], _ :: _, h => by simp [sameMs] at h
  | _ :: _, [], h => by simp [sameMs] at h
  | ⟨k, v, n⟩ :: l, ⟨k', v', n'⟩ :: m, h => by
    simp only [sameMs, Bool.and_eq_true, nbeq_iff] at h
    obtain ⟨⟨⟨h1, h2⟩, h3⟩, h4⟩ := h
    rw [same_sames.1 _ _ h1, same_sames.1 _ _ h2, h3, sameMs_eq h4]
theorem sameAB_eq {a b : AB} (h : sameAB a b = true) : a = b := by
  cases a <;> cases b <;> simp only [sameAB, Bool.false_eq_true, Bool.and_eq_true, nbeq_iff] at h
  · rw [same_sames.2 _ _ h]
  · rw [h.1, sameMs_eq h.2]
  · rw [same_sames.2 _ _ h]
  · simp only [decide_eq_true_eq] at h; obtain ⟨⟨⟨rfl, rfl⟩, rfl⟩, rfl⟩ := h; rfl
  · rw [h.1, same_sames.2 _ _ h.2]
theorem subT_get : ∀ {a t : Tr AB}, subT a t = true → ∀ (p : List Bool) (x : AB), a.getP p = some x → t.getP p = some x
  | .lf, _, _, p, x, h => by rw [Tr.getP_lf] at h; cases h
  | .nd _ _ _, .lf, h, _, _, _ => by simp [subT] at h
  | .nd l v r, .nd l' v' r', h, p, x, hx => by
    simp only [subT, Bool.and_eq_true] at h
    obtain ⟨⟨h1, h2⟩, h3⟩ := h
    cases p with
    | nil =>
      have hv : v = some x := hx
      subst hv
      show v' = some x
      cases v' with
      | none => simp [subO] at h1
      | some b => rw [sameAB_eq (a := x) (b := b) h1]
    | cons b p =>
      cases b
      · exact subT_get (a := r) (t := r') h3 p x hx
      · exact subT_get (a := l) (t := l') h2 p x hx
theorem lookR_some {rs : List ResultVar} {r : X × Tm × St} {p : AV × Nat} (h : lookR P rs S r = some p) : r.1.back = true ∧ ∃ us, ressA P r.2.1 r.2.2 rs = some us ∧ p.1 = tupR us ∧ p.2 = r.2.2.next ∧ S.next ≤ p.2 ∧ ∀ n b, S.heap.get n = some b → r.2.2.heap.get n = some b := by
  simp only [lookR, o2_eq, on3_eq, ob_some, chk_some, Bool.and_eq_true, nble_iff, Option.some.injEq] at h
  obtain ⟨_, h1, us, h2, _, ⟨⟨_, h3⟩, h4⟩, rfl⟩ := h
  exact ⟨h1, us, h2, rfl, rfl, h4, fun n b hb => subT_get h3 _ _ hb⟩
theorem looksR_some {rs : List ResultVar} : ∀ {l : List (X × Tm × St)} {p : AV × Nat}, looksR P rs S l = some p → ∀ r ∈ l, ∃ q, lookR P rs S r = some q ∧ q.1 = p.1 ∧ q.2 ≤ p.2
  | [], _, h, _, _ => by cases h
  | [r], p, h, r', hr => by
    obtain rfl := List.mem_singleton.1 hr
    exact ⟨p, h, rfl, Nat.le_refl _⟩
  | r :: r2 :: l, p, h, r', hr => by
    simp only [looksR, o2_eq, on3_eq, ob_some, chk_some, Option.some.injEq] at h
    obtain ⟨p1, h1, q, h2, _, h3, rfl⟩ := h
    have h3 := same_sames.1 _ _ h3
    have hm : p1.2 ≤ bc (Nat.ble p1.2 q.2) q.2 p1.2 ∧ q.2 ≤ bc (Nat.ble p1.2 q.2) q.2 p1.2 := by
      by_cases hle : p1.2 ≤ q.2
      · rw [nble_iff.2 hle, bc_true]; exact ⟨hle, Nat.le_refl _⟩
      · have hb : Nat.ble p1.2 q.2 = false := by
          cases hb : Nat.ble p1.2 q.2 with
          | false => rfl
          | true => exact absurd (nble_iff.1 hb) hle
        rw [hb, bc_false]; exact ⟨Nat.le_refl _, by omega⟩
    rcases List.mem_cons.1 hr with rfl | hr
    · exact ⟨p1, h1, rfl, hm.1⟩
    · obtain ⟨q', g1, g2, g3⟩ := looksR_some h2 r' hr
      exact ⟨q', g1, by rw [g2, ← h3], Nat.le_trans g3 hm.2⟩

/-- what the caller's memory was, it is -/
theorem Tran.look {E E' : Gh} {h h1 : Nat → Option AB} {w w' : World} {x y z : Nat} (hr : HR E h w) (t : Tran E h w x E' h1 w' y) (hyz : y ≤ z) (hs : ∀ n b, h n = some b → h1 n = some b) : Tran E h w x E' h w' z :=
  ⟨t.ext, Nat.le_trans t.le hyz, fun n d => (t.dom n d).imp id fun ⟨a, b⟩ => ⟨a, Nat.lt_of_lt_of_le b hyz⟩, t.hr.weaken hs, t.pr, t.size, fun n b hb => .inl ⟨b, hb⟩,
    fun n b hb _ => ⟨n, b, hb, (t.ext.blk n (hr.blk n b hb).1).symm⟩, t.frame, t.prot, t.env⟩

theorem callN_ok {rec : RunT} (hrec : RecOk P rec) {f : FuncId} {args : List AV} {vs : Array Value} {v : AV} (h : callN P rec f args S = some (v, S')) (ha : VRP E args vs.toList) (hl : args.length = vs.size)
    (hr : HR E S.heap.get w) (pr : PR E w) (fresh : ∀ n, S.next ≤ n → n < S'.next → ¬ E.dom n) : CallOk P E S w f vs v S' := by
  simp only [callN, o2_eq, on3_eq, ob_some, chk_some, nble_iff] at h
  obtain ⟨fn, hf, c, hb, _, hle, rs, hrun, h⟩ := h
  have ht : TR E fn.ntmps (argsT args 0).get { tmps := vs ++ Array.replicate (fn.ntmps - vs.size) undef, defers := [] } := by
    refine ⟨by simp; omega, fun t y hy => ?_⟩
    rw [argsT_get] at hy
    simp only [Nat.zero_le, if_true, Nat.sub_zero] at hy
    obtain ⟨u, hu, hyu⟩ := ha.get hy
    refine ⟨u, ?_, hyu⟩
    have hlt : t < vs.size := by
      have := (List.getElem?_eq_some_iff.1 hu).1
      simpa using this
    rw [Array.getElem?_append_left hlt]
    simpa using hu
  refine calls_of_wp hf hb ?_
  split at h
  rotate_left
  · cases hro : Mx.ro f <;> rw [hro] at h
    · cases h
    rw [cond_true] at h
    simp only [o2_eq, on3_eq, ob_some, Option.some.injEq, Prod.mk.injEq] at h
    obtain ⟨q, hq, rfl, rfl⟩ := h
    have hl := looksR_some hq
    refine wp_mono (hrec _ _ _ _ _ hrun E _ w ht hr pr (fun r hr n h1 h2 => by
      obtain ⟨p, hp, _, hle⟩ := hl r hr
      obtain ⟨_, _, _, _, e, _⟩ := lookR_some hp
      exact fresh n h1 (by show n < q.2; omega)) rfl) ?_
    rintro e a' w' ⟨r, hr', E', hxr, ht', hd, tr⟩
    obtain ⟨p, hp, hp1, hp2⟩ := hl r hr'
    obtain ⟨hx, us, hus, e1, e2, _, hsub⟩ := lookR_some hp
    obtain ⟨v', hres, hv'⟩ := results_run (P := P) (fn := fn) ht' tr.hr tr.pr hus
    rw [← e1, hp1] at hv'
    have tr' : Tran E S.heap.get w S.next E' S.heap.get w' q.2 := tr.look hr (by omega) hsub
    obtain ⟨x, T', S1⟩ := r
    cases x with
    | n => simp only [XR] at hxr; subst hxr; exact ⟨hd, v', hres, v', E', rfl, hv', tr'⟩
    | e id => simp [X.back] at hx
    | r => simp only [XR] at hxr; subst hxr; exact ⟨hd, v', hres, v', E', rfl, hv', tr'⟩
  rename_i r0
  obtain ⟨x, T', S1⟩ := r0
  simp only [o2_eq, on3_eq, ob_some, chk_some, Option.some.injEq, Prod.mk.injEq] at h
  obtain ⟨_, hx, us, hus, rfl, rfl⟩ := h
  refine wp_mono (hrec _ _ _ _ _ hrun E _ w ht hr pr (fun r hr => by rw [List.mem_singleton.1 hr]; exact fresh) rfl) ?_
  rintro e a' w' ⟨r, hr, E', hxr, ht', hd, tr⟩
  obtain rfl := List.mem_singleton.1 hr
  obtain ⟨v', hres, hv'⟩ := results_run (P := P) (fn := fn) ht' tr.hr tr.pr hus
  cases x with
  | n => simp only [XR] at hxr; subst hxr; exact ⟨hd, v', hres, v', E', rfl, hv', tr⟩
  | e id => simp [X.back] at hx
  | r => simp only [XR] at hxr; subst hxr; exact ⟨hd, v', hres, v', E', rfl, hv', tr⟩

theorem HR.empty (E : Gh) (w : World) : HR E (Tr.lf : Tr AB).get w := ⟨fun n b h => by simp at h, fun n b h => by simp at h, fun n m b c h => by simp at h⟩

/-- what a call on name-free arguments does: it returns v, touches nothing that was there, and what it hands back is frozen -/
def PureOk (P : Program) (f : FuncId) (args : List AV) (v : AV) : Prop :=
  ∀ (E : Gh) (w : World) (vs : Array Value), VRP E.ice args vs.toList → args.length = vs.size → PR E w →
    Calls P f vs w fun e w' => ∃ (v' : Value) (E' : Gh), e = .returned v' ∧ VR E'.ice v v' ∧ PR E'.ice w' ∧ (∀ b arr, E.prot b = some arr → E'.prot b = some arr) ∧ w.heap.size ≤ w'.heap.size ∧
      (∀ b, b < w.heap.size → w'.heap[b]? = w.heap[b]? ∧ E'.prot b = E.prot b) ∧ Env w w'

/-- the calls that are known are so -/
structure MxOk (P : Program) : Prop where
  known : ∀ f args v, Mx.x f args = some v → (∃ fn, P.funcs[f]? = some fn ∧ fn.body.isSome = true) ∧ PureOk P f args v
  tiny : ∀ f t, Mx.tn f t = true → (∃ fn, P.funcs[f]? = some fn ∧ fn.body.isSome = true) ∧
    ∀ (p : Option Addr) (n c : Nat) (g : Fn) (a b : Array Value) (w : World), n ≤ 1 → Calls P f #[.iface t (.slice p n c), .func g a b] w fun e w' => e = .returned (.tuple #[]) ∧ ∃ os : Array Obj, w' = { w with heap := w.heap ++ os }

  sorts : ∀ f t q, Mx.so f t = some q → (∃ fn, P.funcs[f]? = some fn ∧ fn.body.isSome = true) ∧
    ∀ (p : Option Addr) (n c : Nat) (g : Fn) (a b : Array Value) (w : World) (R : World → Prop), 2 ≤ n → n < 4611686018427387904 →
      (∀ os : Array Obj, Calls P q.1 #[.agg #[.func g a b, .func (.func q.2.1) #[] #[.slice p n c, typeHandle P q.2.2]], .int .i64 0, .int .i64 n, .int .i64 ((n.log2 + 1 : Nat) : Int)] { w with heap := w.heap ++ os } fun e w' => e = .returned (.tuple #[]) ∧ R w') →
      Calls P f #[.iface t (.slice p n c), .func g a b] w fun e w' => e = .returned (.tuple #[]) ∧ R w'
  externs : ∀ f args v, Mx.ex f args = some v → ∀ (E : Gh) (vs : Array Value), VRP E args vs.toList → args.length = vs.size → ∃ u, VR E v u ∧ ∀ W, (callFunc f vs).run P W = .ok (.value u) W
  swaps : ∀ s, Mx.sw s = true → ∃ gS, ∀ args W, (callFunc s args).run P W = ((Extern.ReflectliteSwapper.swap gS args).run P W).andThen fun v w' => .ok (.value v) w'

theorem PR.ice {w : World} (pr : PR E w) : PR E.ice w := ⟨fun b arr h => pr.blk b arr h, fun g v hg => pr.gl g v hg⟩

theorem pureF_ok (hx : MxOk P) {rec : RunT} (hrec : RecOk P rec) {f : FuncId} {args : List AV} {v : AV} (h : pureF P rec f args = some v) : PureOk P f args v := by
  unfold pureF at h
  split at h
  · rename_i q hq
    cases h
    exact (hx.known f args _ hq).2
  · simp only [o2_eq, on3_eq, ob_some] at h
    obtain ⟨l, h2, h⟩ := h
    split at h
    rotate_left
    · cases h
    rename_i q l
    simp only [o2_eq, on3_eq, ob_some, chk_some, Option.some.injEq] at h
    obtain ⟨_, hall, rfl⟩ := h
    have hq : ∀ x ∈ q :: l, x = q := fun x hx => by
      rcases List.mem_cons.1 hx with rfl | hx
      · rfl
      · exact (same_sames.1 _ _ ((List.all_eq_true.1 hall) x hx)).symm
    intro E w vs ha hl pr
    simp only [callM, o2_eq, on3_eq, ob_some, chk_some, nble_iff] at h2
    obtain ⟨fn, hf, c, hb, _, hle, rs, hrun, h2⟩ := h2
    refine calls_of_wp hf hb ?_
    have ht : TR E.ice fn.ntmps (argsT args 0).get { tmps := vs ++ Array.replicate (fn.ntmps - vs.size) undef, defers := [] } := by
      refine ⟨by simp; omega, fun t y hy => ?_⟩
      rw [argsT_get] at hy
      simp only [Nat.zero_le, if_true, Nat.sub_zero] at hy
      obtain ⟨u, hu, hyu⟩ := ha.get hy
      refine ⟨u, ?_, hyu⟩
      have hlt : t < vs.size := by
        have := (List.getElem?_eq_some_iff.1 hu).1
        simpa using this
      rw [Array.getElem?_append_left hlt]
      simpa using hu
    refine wp_mono (hrec _ _ _ _ _ hrun E.ice _ w ht (HR.empty E.ice w) pr.ice (fun r hr n _ _ d => d) rfl) ?_
    rintro e a' w' ⟨r, hr, E2, hxr, ht', hd, t2⟩
    obtain ⟨z, hz, e2⟩ := mapO_all h2 r hr
    simp only [o2_eq, on3_eq, ob_some, chk_some, Option.some.injEq] at e2
    obtain ⟨_, hbk, us, hus, ⟨q', S3⟩, h3, rfl⟩ := e2
    have hqq := hq _ hz
    dsimp only at hqq
    subst hqq
    obtain ⟨v', hres, hv'⟩ := results_run (P := P) (fn := fn) ht' t2.hr t2.pr hus
    obtain ⟨E3, hv3, _, t3⟩ := frz_ok _ E2 r.2.2 S3 w' (tupR us) q' v' h3 hv' t2.hr t2.pr
    have t := t2.trans2 t3 (Nat.zero_le _) (Nat.le_refl _)
    obtain ⟨x, T', S2⟩ := r
    cases x with
    | n => simp only [XR] at hxr; subst hxr; exact ⟨hd, v', hres, v', E3, rfl, hv3, t.pr.ice, t.ext.prot, t.size, fun b hb => ⟨t.frame b hb (fun n c hc => by simp at hc), t.prot b hb (fun n c hc => by simp at hc)⟩, t.env⟩
    | e id => simp [X.back] at hbk
    | r => simp only [XR] at hxr; subst hxr; exact ⟨hd, v', hres, v', E3, rfl, hv3, t.pr.ice, t.ext.prot, t.size, fun b hb => ⟨t.frame b hb (fun n c hc => by simp at hc), t.prot b hb (fun n c hc => by simp at hc)⟩, t.env⟩

theorem callP_ok (hx : MxOk P) {rec : RunT} (hrec : RecOk P rec) {f : FuncId} {args : List AV} {vs : Array Value} {v : AV} (h : callP P rec f args S = some (v, S')) (ha : VRP E args vs.toList) (hl : args.length = vs.size)
    (hr : HR E S.heap.get w) (pr : PR E w) : CallOk P E S w f vs v S' := by
  simp only [callP, o2_eq, on3_eq, ob_some, Option.some.injEq, Prod.mk.injEq] at h
  obtain ⟨⟨args', S1⟩, h1, q, h2, rfl, hS⟩ := h
  obtain ⟨E1, ha1, hl1, hn1, t1⟩ := mapS_ok (frz_ok _) _ _ _ _ _ _ w h1 ha hr pr
  refine Calls.mono (pureF_ok hx hrec h2 E1 w vs ha1 (hl1.trans hl) t1.pr) ?_
  rintro e w' ⟨v', E2, rfl, hv, hp, hpr, hsz, hfr, henv⟩
  cases hfl : (flat q || (Mx.ln f && flatT q)) with
  | true =>
    rw [hfl, cond_true] at hS
    subst hS
    have ltS : ∀ n b, S.heap.get n = some b → E.blk n < w.heap.size := fun n b hb => hr.lt hb
    refine ⟨v', E, rfl, ?_, ⟨Ext.refl E, Nat.le_refl _, fun _ d => .inl d, ⟨?_, hr.free, hr.inj⟩, ⟨?_, pr.gl⟩, hsz, fun n b hb => .inl ⟨b, hb⟩, fun n b hb _ => ⟨n, b, hb, rfl⟩,
      fun b hb _ => (hfr b hb).1, fun _ _ _ => rfl, henv⟩⟩
    · exact flatT_VR hfl hv
    · intro n b hb
      obtain ⟨d, o, ho, hbr⟩ := hr.blk n b hb
      exact ⟨d, o, by rw [← ho]; exact (hfr _ (ltS n b hb)).1, hbr⟩
    · intro b arr hb
      obtain ⟨el, fz, ho⟩ := pr.blk b arr hb
      exact ⟨el, fz, by rw [← ho]; exact (hfr b (pr.lt hb)).1⟩
  | false =>
  rw [hfl, cond_false] at hS
  have hS : S1 = S' := hS
  subst hS
  have ext : Ext E1 { E1 with prot := E2.prot } := ⟨fun _ d => d, fun _ _ => rfl, fun _ _ => rfl, fun _ _ => rfl, hpr⟩
  have lt : ∀ n b, S1.heap.get n = some b → E1.blk n < w.heap.size := fun n b hb => t1.hr.lt hb
  refine ⟨v', { E1 with prot := E2.prot }, rfl, VR.mono (Ext.iceOf (E := E2) (E' := { E1 with prot := E2.prot }) fun _ _ h => h) _ _ hv, ?_⟩
  have hn1' : S1.next = S.next := hn1
  rw [hn1']
  refine t1.trans ⟨ext, Nat.le_refl _, fun _ d => .inl d, ⟨?_, ?_, ?_⟩, ⟨fun b arr hb => hp.blk b arr hb, fun g u hg => VR.mono (Ext.iceOf (E := E2) (E' := Gh.ice { E1 with prot := E2.prot }) fun _ _ h => h) _ _ (hp.gl g u hg)⟩, hsz, fun n b hb => .inl ⟨b, hb⟩, fun n b hb _ => ⟨n, b, hb, rfl⟩,
    fun b hb _ => (hfr b hb).1, fun b hb _ => (hfr b hb).2, henv⟩
  · intro n b hb
    obtain ⟨d, o, ho, hbr⟩ := t1.hr.blk n b hb
    exact ⟨d, o, by rw [← ho]; exact (hfr _ (lt n b hb)).1, hbr.mono ext d⟩
  · intro n b hb hmut
    show E2.prot (E1.blk n) = none
    rw [(hfr _ (lt n b hb)).2]
    exact t1.hr.free n b hb hmut
  · exact t1.hr.inj

theorem tinyA_some {f : FuncId} {args : List AV} (h : tinyA f args = true) : ∃ t x g a c, args = [.iface t x, .func g a c] ∧ Mx.tn f t = true ∧ tinyS x = true := by
  unfold tinyA at h
  split at h
  · rename_i t x g a c
    simp only [Bool.and_eq_true] at h
    exact ⟨t, x, g, a, c, rfl, h.1, h.2⟩
  · cases h

theorem tinyS_rel {x : AV} {v : Value} (h : tinyS x = true) (hx : VR E x v) : ∃ p n c, v = .slice p n c ∧ n ≤ 1 := by
  unfold tinyS at h
  split at h
  · simp only [VR] at hx
    exact ⟨_, _, _, hx, Nat.zero_le _⟩
  · simp only [VR] at hx
    obtain ⟨_, c, rfl, _⟩ := hx
    exact ⟨_, _, _, rfl, nble_iff.1 h⟩
  · simp only [VR] at hx
    rcases hx with ⟨_, _, _, _, rfl, _⟩ | ⟨_, h0, rfl⟩
    · exact ⟨_, _, _, rfl, nble_iff.1 h⟩
    · exact ⟨_, _, _, rfl, Nat.zero_le _⟩
  · cases h

/-- new blocks that nobody knows of -/
theorem Tran.grows (hr : HR E S.heap.get w) (pr : PR E w) (os : Array Obj) (x : Nat) : Tran E S.heap.get w x E S.heap.get { w with heap := w.heap ++ os } x := by
  have old : ∀ b, b < w.heap.size → (w.heap ++ os)[b]? = w.heap[b]? := fun b hb => Array.getElem?_append_left hb
  refine ⟨Ext.refl E, Nat.le_refl _, fun _ d => .inl d, ⟨?_, hr.free, hr.inj⟩, ⟨?_, pr.gl⟩, by simp, fun n b hb => .inl ⟨b, hb⟩, fun n b hb _ => ⟨n, b, hb, rfl⟩,
    fun b hb _ => old b hb, fun _ _ _ => rfl, ⟨rfl, rfl, rfl⟩⟩
  · intro n b hb
    obtain ⟨d, o, ho, hbr⟩ := hr.blk n b hb
    exact ⟨d, o, by rw [← ho]; exact old _ (hr.lt hb), hbr⟩
  · intro b arr hb
    obtain ⟨el, fz, ho⟩ := pr.blk b arr hb
    exact ⟨el, fz, by rw [← ho]; exact old b (pr.lt hb)⟩

theorem VR.unit (E : Gh) : VR E (.tup []) (.tuple #[]) := by simp only [VR]; exact ⟨#[], rfl, VRP.nil, rfl⟩

theorem tiny_ok (hx : MxOk P) {f : FuncId} {args : List AV} {vs : Array Value} (h : tinyA f args = true) (ha : VRP E args vs.toList) (hl : args.length = vs.size)
    (hr : HR E S.heap.get w) (pr : PR E w) : CallOk P E S w f vs (.tup []) S := by
  obtain ⟨t, x, g, a, c, rfl, ht, hs⟩ := tinyA_some h
  obtain ⟨l⟩ := vs
  match l, ha, hl with
  | [u, v], ha, _ =>
    obtain ⟨h1, h2⟩ := VRP.cons_iff.1 ha
    have h2 := (VRP.cons_iff.1 h2).1
    simp only [VR] at h1 h2
    obtain ⟨y, rfl, hy⟩ := h1
    obtain ⟨a', c', rfl, _⟩ := h2
    obtain ⟨p, n, k, rfl, hn⟩ := tinyS_rel hs hy
    refine Calls.mono ((hx.tiny f t ht).2 p n k (.func g) a' c' w hn) ?_
    rintro e w' ⟨rfl, os, rfl⟩
    exact ⟨_, E, rfl, VR.unit E, Tran.grows hr pr os _⟩
  | [], _, hl => simp at hl
  | [_], _, hl => simp at hl
  | _ :: _ :: _ :: _, _, hl => simp at hl

theorem sortQ_some {f : FuncId} {args : List AV} {q : FuncId × List AV} (h : sortQ P f args = some q) : ∃ t n off len cap z lf la lc r, args = [.iface t (.ms n off len cap z), .func lf la lc] ∧ Mx.so f t = some r ∧ 2 ≤ len ∧ len < 4611686018427387904 ∧
    q = (r.1, [.agg [.func lf la lc, .func r.2.1 [] [.ms n off len cap z, .adr P.globals.size r.2.2]], .int .i64 0, .int .i64 len, .int .i64 ((len.log2 + 1 : Nat) : Int)]) := by
  unfold sortQ at h
  split at h
  · rename_i t n off len cap z lf la lc
    simp only [o2_eq, on3_eq, ob_some, chk_some, Bool.and_eq_true, nblt_iff, Option.some.injEq] at h
    obtain ⟨r, hr, _, ⟨h1, h2⟩, rfl⟩ := h
    exact ⟨t, n, off, len, cap, z, lf, la, lc, r, rfl, hr, h1, h2, rfl⟩
  · cases h

theorem unitR_some {x : Option (AV × St)} {v : AV} (h : unitR x = some (v, S')) : v = .tup [] ∧ x = some (.tup [], S') := by
  unfold unitR at h
  split at h
  · cases h; exact ⟨rfl, rfl⟩
  · cases h

theorem sort_ok (hx : MxOk P) {rec : RunT} (hrec : RecOk P rec) {f : FuncId} {args : List AV} {vs : Array Value} {v : AV} {q : FuncId × List AV} (hq : sortQ P f args = some q) (h : unitR (callN P rec q.1 q.2 S) = some (v, S')) (ha : VRP E args vs.toList) (hl : args.length = vs.size)
    (hr : HR E S.heap.get w) (pr : PR E w) (fresh : ∀ n, S.next ≤ n → n < S'.next → ¬ E.dom n) : CallOk P E S w f vs v S' := by
  obtain ⟨hv0, h'⟩ := unitR_some h
  clear h
  have h := h'
  clear h'
  subst hv0
  obtain ⟨t, n, off, len, cap, z, lf, la, lc, r, rfl, hso, h2, hlt, rfl⟩ := sortQ_some hq
  obtain ⟨l⟩ := vs
  match l, ha, hl with
  | [u, g], ha, _ =>
    obtain ⟨h1, hg⟩ := VRP.cons_iff.1 ha
    have hg := (VRP.cons_iff.1 hg).1
    have hg0 := hg
    simp only [VR] at h1 hg
    obtain ⟨y, rfl, hd, k, rfl, hlk, hrest⟩ := h1
    obtain ⟨a', c', rfl, _⟩ := hg
    have hslice : VR E (.ms n off len cap z) (.slice (some ⟨E.blk n, E.sh n + off, none⟩) len k) := by
      simp only [VR]; exact ⟨hd, k, rfl, hlk, hrest⟩
    refine Calls.mono ((hx.sorts f t r hso).2 _ len k (.func lf) a' c' w (fun w' => ∃ E', Tran E S.heap.get w S.next E' S'.heap.get w' S'.next) h2 hlt ?_) ?_
    · intro os
      have tr := Tran.grows hr pr os S.next
      have hcap : VR E (.func r.2.1 [] [.ms n off len cap z, .adr P.globals.size r.2.2]) (.func (.func r.2.1) #[] #[.slice (some ⟨E.blk n, E.sh n + off, none⟩) len k, typeHandle P r.2.2]) := by
        simp only [VR]
        exact ⟨#[], _, rfl, ⟨VRP.nil, rfl⟩, VRP.cons_iff.2 ⟨hslice, VRP.cons_iff.2 ⟨by simp only [VR]; rfl, VRP.nil⟩⟩, rfl⟩
      have hags : VRP E [.agg [.func lf la lc, .func r.2.1 [] [.ms n off len cap z, .adr P.globals.size r.2.2]], .int .i64 0, .int .i64 len, .int .i64 ((len.log2 + 1 : Nat) : Int)]
          (#[.agg #[.func (.func lf) a' c', .func (.func r.2.1) #[] #[.slice (some ⟨E.blk n, E.sh n + off, none⟩) len k, typeHandle P r.2.2]], .int .i64 0, .int .i64 len, .int .i64 ((len.log2 + 1 : Nat) : Int)] : Array Value).toList := by
        refine VRP.cons_iff.2 ⟨?_, VRP.cons_iff.2 ⟨by simp only [VR], VRP.cons_iff.2 ⟨by simp only [VR], VRP.cons_iff.2 ⟨by simp only [VR], VRP.nil⟩⟩⟩⟩
        simp only [VR]
        exact ⟨_, rfl, VRP.cons_iff.2 ⟨hg0, VRP.cons_iff.2 ⟨hcap, VRP.nil⟩⟩, rfl⟩
      refine Calls.mono (callN_ok (S := S) hrec h hags rfl tr.hr tr.pr fresh) ?_
      rintro e w' ⟨v', E', rfl, hv, ht⟩
      simp only [VR] at hv
      obtain ⟨a, rfl, _, hsz⟩ := hv
      have : a = #[] := Array.eq_empty_of_size_eq_zero (by simpa using hsz.symm)
      subst this
      exact ⟨rfl, E', tr.trans ht⟩
    · rintro e w' ⟨rfl, E', ht⟩
      exact ⟨_, E', rfl, VR.unit E', ht⟩
  | [], _, hl => simp at hl
  | [_], _, hl => simp at hl
  | _ :: _ :: _ :: _, _, hl => simp at hl

theorem natI_some {i : Int} {n : Nat} (h : natI i = some n) : i = (n : Int) := by
  unfold natI at h
  split at h
  · cases h; rfl
  · cases h

theorem swap_eq (gS : Bool) (i j : Int) (a : Addr) (n c : Nat) (h : Value) : Extern.ReflectliteSwapper.swap gS #[.int .i64 i, .int .i64 j, .slice (some a) n c, h] = (do
    if gS then
      if i < 0 || i ≥ n then boundsPanic .i64 i n .index
      if j < 0 || j ≥ n then boundsPanic .i64 j n .index
    else if i < 0 || i ≥ n || j < 0 || j ≥ n then Extern.ReflectliteSwapper.outOfRange
    Extern.ReflectliteSwapper.exchange (← Extern.Rtype.ofHandle h) a i.toNat j.toNat) := rfl

theorem swap_does {args : List AV} {vs : Array Value} {v : AV} (h : swapA P args S = some (v, S')) (ha : VRP E args vs.toList) (hl : args.length = vs.size) (hr : HR E S.heap.get w) (pr : PR E w) (gS : Bool) :
    v = .tup [] ∧ ∃ w', (Extern.ReflectliteSwapper.swap gS vs).run P w = .ok (.tuple #[]) w' ∧ Tran E S.heap.get w S.next E S'.heap.get w' S'.next := by
  unfold swapA at h
  split at h
  · rename_i i j n off len cap z b t
    simp only [o2_eq, on3_eq, ob_some, chk_some, nbeq_iff, Bool.and_eq_true, nblt_iff, Option.some.injEq, Prod.mk.injEq] at h
    obtain ⟨_, hb, e, he, _, hz, i', hi, j', hj, _, ⟨hil, hjl⟩, x, hx, y, hy, S1, hs1, S2, hs2, rfl, rfl⟩ := h
    refine ⟨rfl, ?_⟩
    have hi := natI_some hi
    have hj := natI_some hj
    subst hi hj hb hz
    obtain ⟨l⟩ := vs
    match l, ha, hl with
    | [a1, a2, a3, a4], ha, _ =>
      obtain ⟨h1, ha⟩ := VRP.cons_iff.1 ha
      obtain ⟨h2, ha⟩ := VRP.cons_iff.1 ha
      obtain ⟨h3, ha⟩ := VRP.cons_iff.1 ha
      have h4 := (VRP.cons_iff.1 ha).1
      simp only [VR] at h1 h2 h3 h4
      obtain ⟨_, c, rfl, _⟩ := h3
      subst h1 h2 h4
      obtain ⟨u, hu, hxu⟩ := loadVar_run he hx hr
      obtain ⟨u', hu', hyu⟩ := loadVar_run he hy hr
      obtain ⟨w1, hr1, t1⟩ := storeVar_run he hs1 hyu hr pr
      obtain ⟨w2, hr2, t2⟩ := storeVar_run he hs2 hxu t1.hr t1.pr
      refine ⟨w2, ?_, t1.trans t2⟩
      have n1 : ¬ ((i' : Int) < 0) := by omega
      have n2 : ¬ ((i' : Int) ≥ (len : Int)) := by omega
      have n3 : ¬ ((j' : Int) < 0) := by omega
      have n4 : ¬ ((j' : Int) ≥ (len : Int)) := by omega
      have pg : (Sem.program Sem.pure).run P w = .ok P w := by rw [Sem.run]; simp [Sem.run]
      have hh : (Extern.Rtype.ofHandle (.pointer (some ⟨P.globals.size, t, none⟩))).run P w = .ok t w := by
        simp [Extern.Rtype.ofHandle, handleType, program, pg]
      have ex : (Extern.ReflectliteSwapper.exchange t ⟨E.blk n, E.sh n + off, none⟩ i' j').run P w = .ok (.tuple #[]) w2 := by
        simp only [Extern.ReflectliteSwapper.exchange, Sem.run_bind, r_size he, Result.andThen_ok, add_mk, Nat.add_assoc, hu, hu', hr1, hr2, Sem.run_pure]
      rw [swap_eq]
      cases gS <;> simp [n1, n2, n3, n4, hh, ex]
    | [], _, hl => simp at hl
    | [_], _, hl => simp at hl
    | [_, _], _, hl => simp at hl
    | [_, _, _], _, hl => simp at hl
    | _ :: _ :: _ :: _ :: _ :: _, _, hl => simp at hl
  · cases h

theorem callB_ok (hx : MxOk P) {pol : FuncId → Bool} {rec : RunT} (hrec : RecOk P rec) {f : FuncId} (hsw : Mx.sw f = false) {args : List AV} {vs : Array Value} {v : AV} (h : callB pol P rec f args S = some (v, S')) (ha : VRP E args vs.toList) (hl : args.length = vs.size)
    (hr : HR E S.heap.get w) (pr : PR E w) (fresh : ∀ n, S.next ≤ n → n < S'.next → ¬ E.dom n) : CallOk P E S w f vs v S' := by
  unfold callB at h
  rw [hsw, cond_false] at h
  cases ht : tinyA f args <;> rw [ht] at h
  · rw [cond_false] at h
    split at h
    · rename_i q hq
      exact sort_ok hx hrec hq h ha hl hr pr fresh
    cases hp : pol f <;> rw [hp] at h
    · exact callN_ok hrec h ha hl hr pr fresh
    · exact callP_ok hx hrec h ha hl hr pr
  · cases h
    exact tiny_ok hx ht ha hl hr pr


/-! every operation -/
def NoNum (P : Program) : Prop := ∀ (f : FuncId) (fn : Func), P.funcs[f]? = some fn → fn.body.isSome = true → (fn.name == "runtime.NumGoroutine") = false

theorem wp_of_does {o : Oper} {a : Act} {v : AV} {next : Act → World → Prop} {Q : Exit → Act → World → Prop} (h : Does P (execOp a.eval o) E S w v S')
    (hn : ∀ v' w' E', VR E' v v' → Tran E S.heap.get w S.next E' S'.heap.get w' S'.next → next (a.put o.dst v') w') : o.wp P a w next Q := by
  obtain ⟨r, v', w', E', hrun, hr, hv, ht⟩ := h
  unfold Oper.wp
  rw [hrun]
  rcases hr with rfl | ⟨rfl, rfl⟩
  · exact hn v' w' E' hv ht
  · exact hn _ w' E' hv ht

theorem Does.unit {s : Sem Unit} {w' : World} (hrun : s.run P w = .ok () w') (ht : Tran E S.heap.get w S.next E S'.heap.get w' S'.next) : Does P (do s; pure .skip) E S w (.tup []) S' :=
  ⟨.skip, undef, w', E, by simp [hrun], .inr ⟨rfl, rfl⟩, by simp only [VR, undef]; exact ⟨#[], rfl, VRP.nil, rfl⟩, ht⟩
theorem Does.unit2 {s : Sem Unit} {w' : World} {E' : Gh} (hrun : s.run P w = .ok () w') (ht : Tran E S.heap.get w S.next E' S'.heap.get w' S'.next) : Does P (do s; pure .skip) E S w (.tup []) S' :=
  ⟨.skip, undef, w', E', by simp [hrun], .inr ⟨rfl, rfl⟩, by simp only [VR, undef]; exact ⟨#[], rfl, VRP.nil, rfl⟩, ht⟩

theorem Does.val {x : Value} {v : AV} (hr : HR E S.heap.get w) (pr : PR E w) (hv : VR E v x) : Does P (pure (.value x)) E S w v S :=
  ⟨.value x, x, w, E, rfl, .inl rfl, hv, Tran.refl _ hr pr⟩

theorem evs_rel {ρ : Operand → Value} : ∀ {xs : List Operand} {vs : List AV}, evs T xs = some vs → (∀ x ∈ xs, ∀ v, ev T x = some v → VR E v (ρ x)) → VRP E vs (xs.map ρ) ∧ vs.length = (xs.map ρ).length
  | [], vs, h, _ => by simp only [evs, Option.some.injEq] at h; subst h; exact ⟨VRP.nil, rfl⟩
  | x :: xs, vs, h, ho => by
    simp only [evs, o2_eq, on3_eq, ob_some, Option.some.injEq] at h
    obtain ⟨v, hv, vs', hvs, rfl⟩ := h
    have := evs_rel hvs (fun y hy => ho y (by simp [hy]))
    exact ⟨VRP.cons_iff.2 ⟨ho x (by simp) v hv, this.1⟩, by simpa using this.2⟩

theorem evp_rel {ρ : Operand → Value} : ∀ {xs : List (Nat × Operand)} {vs : List (Nat × AV)}, evp T xs = some vs → (∀ x ∈ xs, ∀ v, ev T x.2 = some v → VR E v (ρ x.2)) → PartsR E vs (xs.map fun (i, x) => (i, ρ x))
  | [], vs, h, _ => by simp only [evp, Option.some.injEq] at h; subst h; simp [PartsR]
  | (i, x) :: xs, vs, h, ho => by
    simp only [evp, o2_eq, on3_eq, ob_some, Option.some.injEq] at h
    obtain ⟨v, hv, vs', hvs, rfl⟩ := h
    simp only [List.map_cons, PartsR]
    exact ⟨trivial, ho (i, x) (by simp) v hv, evp_rel hvs (fun y hy => ho y (by simp [hy]))⟩

theorem max_rel {k : IntKind} : ∀ {xs : List AV} {us : List Value} {x : Int} {y : AV}, maxL k x xs = some y → VRP E xs us → xs.length = us.length → ∃ v, (us.foldlM Builtin.max2 (.int k x)).run P w = .ok v w ∧ VR E y v
  | [], [], x, y, h, _, _ => by simp only [maxL, Option.some.injEq] at h; subst h; exact ⟨_, rfl, by simp only [VR]⟩
  | [], _ :: _, _, _, _, _, hl => by simp at hl
  | _ :: _, [], _, _, _, hr, _ => by simp only [VRP] at hr
  | a :: xs, u :: us, x, y, h, hr, hl => by
    rw [VRP.cons_iff] at hr
    unfold maxL at h
    split at h
    · cases ‹_ :: _ = []›
    · rename_i k' z r heq
      cases heq
      simp only [VR] at hr
      obtain ⟨rfl, hr⟩ := hr
      obtain ⟨v, hv, hy⟩ := max_rel h hr (by simpa using hl)
      refine ⟨v, ?_, hy⟩
      rw [List.foldlM_cons, Sem.run_bind]
      simp only [Builtin.max2, Sem.run_pure, Result.andThen_ok]
      exact hv
    · cases h

theorem min_rel {k : IntKind} : ∀ {xs : List AV} {us : List Value} {x : Int} {y : AV}, minL k x xs = some y → VRP E xs us → xs.length = us.length → ∃ v, (us.foldlM Builtin.min2 (.int k x)).run P w = .ok v w ∧ VR E y v
  | [], [], x, y, h, _, _ => by simp only [minL, Option.some.injEq] at h; subst h; exact ⟨_, rfl, by simp only [VR]⟩
  | [], _ :: _, _, _, _, _, hl => by simp at hl
  | _ :: _, [], _, _, _, hr, _ => by simp only [VRP] at hr
  | a :: xs, u :: us, x, y, h, hr, hl => by
    rw [VRP.cons_iff] at hr
    unfold minL at h
    split at h
    · cases ‹_ :: _ = []›
    · rename_i k' z r heq
      cases heq
      simp only [VR] at hr
      obtain ⟨rfl, hr⟩ := hr
      obtain ⟨v, hv, hy⟩ := min_rel h hr (by simpa using hl)
      refine ⟨v, ?_, hy⟩
      rw [List.foldlM_cons, Sem.run_bind]
      simp only [Builtin.min2, Sem.run_pure, Result.andThen_ok]
      exact hv
    · cases h

end
end Go.Eng
namespace Go.Eng
set_option linter.unusedSectionVars false
set_option linter.unusedVariables false
set_option linter.unusedSimpArgs false
variable [Gl] [Mx]
section
variable {P : Program} {E : Gh} {S S' : St} {w : World}

theorem iter_rel (hr : HR E S.heap.get w) {r : Nat} {m : Option Nat} {since : Nat} {seen : List Nat} {last : Nat} (h : S.heap.get r = some (.iter m since seen last)) :
    (∀ k, m = some k → E.dom k) ∧ E.sh r = 0 ∧ w.heap[E.blk r]? = some (.mapIter (m.map E.blk) since seen.toArray last) := by
  obtain ⟨_, o, ho, hb⟩ := hr.blk r _ h
  simp only [BR] at hb
  obtain ⟨h1, h2, rfl⟩ := hb
  exact ⟨h1, h2, ho⟩
theorem run_getIter {r : Nat} {m : Option Nat} {a b : Nat} {s : Array Nat} (h : w.heap[r]? = some (.mapIter m a s b)) : (getObj r).run P w = .ok (.mapIter m a s b) w := by
  simp [getObj, Sem.run, h]
theorem run_setIter {r : Nat} {m : Option Nat} {a b : Nat} {s : Array Nat} (h : w.heap[r]? = some (.mapIter m a s b)) (o : Obj) : (setObj r o).run P w = .ok () { w with heap := w.heap.setIfInBounds r o } := by
  simp [setObj, Sem.run, h]
theorem MR.filter {p : Nat → Bool} : ∀ {es : List ME} {fs : List MapEntry}, MR E es fs → MR E (es.filter fun e => p e.born) (fs.filter fun e => p e.born)
  | [], [], _ => by simp [MR]
  | [], _ :: _, h => by simp only [MR] at h
  | _ :: _, [], h => by simp only [MR] at h
  | e :: es, f :: fs, h => by
    simp only [MR] at h
    have ih := MR.filter (p := p) h.2.2.2
    rw [List.filter_cons, List.filter_cons, ← h.2.2.1]
    cases p e.born
    · exact ih
    · simp only [if_true, MR]; exact ⟨h.1, h.2.1, h.2.2.1, ih⟩
theorem MR.app : ∀ {es es' : List ME} {fs fs' : List MapEntry}, MR E es fs → MR E es' fs' → MR E (es ++ es') (fs ++ fs')
  | [], _, [], _, _, h => h
  | [], _, _ :: _, _, h, _ => by simp only [MR] at h
  | _ :: _, _, [], _, h, _ => by simp only [MR] at h
  | e :: es, es', f :: fs, fs', h, h' => by
    simp only [MR] at h
    simp only [List.cons_append, MR]
    exact ⟨h.1, h.2.1, h.2.2.1, MR.app h.2.2.2 h'⟩
theorem MR.get : ∀ {es : List ME} {fs : List MapEntry}, MR E es fs → ∀ {i : Nat} {f : MapEntry}, fs[i]? = some f → ∃ e, es[i]? = some e ∧ VR E e.key f.key ∧ VR E e.val f.val ∧ e.born = f.born
  | [], [], _, i, f, h => by simp at h
  | [], _ :: _, h, _, _, _ => by simp only [MR] at h
  | _ :: _, [], h, _, _, _ => by simp only [MR] at h
  | e :: es, f :: fs, h, 0, g, hg => by
    simp only [MR] at h
    simp at hg; subst hg
    exact ⟨e, rfl, h.1, h.2.1, h.2.2.1⟩
  | e :: es, f :: fs, h, i + 1, g, hg => by
    simp only [MR] at h
    exact MR.get h.2.2.2 (by simpa using hg)
theorem MR.all {p : Nat → Bool} : ∀ {es : List ME} {fs : List MapEntry}, MR E es fs → (es.all fun e => p e.born) = fs.all fun e => p e.born
  | [], [], _ => rfl
  | [], _ :: _, h => by simp only [MR] at h
  | _ :: _, [], h => by simp only [MR] at h
  | e :: es, f :: fs, h => by
    simp only [MR] at h
    simp only [List.all_cons, h.2.2.1, MR.all h.2.2.2]
theorem MR.find {p : Nat → Bool} : ∀ {es : List ME} {fs : List MapEntry} {e : ME}, MR E es fs → es.find? (fun e => p e.born) = some e → ∃ f, fs.find? (fun e => p e.born) = some f ∧ VR E e.key f.key ∧ VR E e.val f.val
  | [], [], _, _, h => by simp at h
  | [], _ :: _, _, h, _ => by simp only [MR] at h
  | _ :: _, [], _, h, _ => by simp only [MR] at h
  | e :: es, f :: fs, g, h, hf => by
    simp only [MR] at h
    rw [List.find?_cons] at hf ⊢
    rw [← h.2.2.1]
    cases hp : p e.born <;> rw [hp] at hf
    · exact MR.find h.2.2.2 hf
    · cases hf; exact ⟨f, rfl, h.1, h.2.1⟩

theorem HR.sameHeap {E : Gh} {h : Nat → Option AB} {w w' : World} (hr : HR E h w) (e : w'.heap = w.heap) : HR E h w' := ⟨fun n b hb => by rw [e]; exact hr.blk n b hb, hr.free, hr.inj⟩
theorem PR.sameHeap {E : Gh} {w w' : World} (pr : PR E w) (e : w'.heap = w.heap) : PR E w' := ⟨fun b arr hb => by rw [e]; exact pr.blk b arr hb, pr.gl⟩
theorem Tran.fromHeap {E E' : Gh} {h h' : Nat → Option AB} {w w1 w' : World} {x y : Nat} (t : Tran E h w1 x E' h' w' y) (e : w1.heap = w.heap) (he : Env w w1) : Tran E h w x E' h' w' y :=
  ⟨t.ext, t.le, t.dom, t.hr, t.pr, by rw [← e]; exact t.size, t.names, by rw [← e]; exact t.own, by rw [← e]; exact t.frame, by rw [← e]; exact t.prot, he.trans t.env⟩


/-- the entries that may come, as the machine sees them -/
def candF (es : List MapEntry) (since : Nat) (seen : List Nat) : List (Option MapEntry) :=
  let left := es.filter fun e => !seen.contains e.born
  let old := left.filter fun e => decide (e.born < since)
  let new := left.filter fun e => decide (e.born ≥ since)
  (bif old.isEmpty then [none] else []) ++ (old ++ new).map some
theorem cand_get {es : List ME} {fs : List MapEntry} {since : Nat} {seen : List Nat} (hm : MR E es fs) :
    (candA es since seen).length = (candF fs since seen).length ∧ 0 < (candF fs since seen).length ∧ ∀ (i : Nat) (o : Option MapEntry), (candF fs since seen)[i]? = some o → match o with
      | none => (candA es since seen)[i]? = some none
      | some (f : MapEntry) => ∃ e : ME, (candA es since seen)[i]? = some (some e) ∧ VR E e.key f.key ∧ VR E e.val f.val ∧ e.born = f.born := by
  have ho := MR.filter (p := fun b => decide (b < since)) (MR.filter (p := fun b => !seen.contains b) hm)
  have hn := MR.filter (p := fun b => decide (b ≥ since)) (MR.filter (p := fun b => !seen.contains b) hm)
  have ha := MR.app ho hn
  unfold candA candF
  dsimp only
  generalize (List.filter (fun e => decide (e.born < since)) (List.filter (fun e => !seen.contains e.born) es)) = oe at ho ha ⊢
  generalize (List.filter (fun e => decide (e.born < since)) (List.filter (fun e => !seen.contains e.born) fs)) = of at ho ha ⊢
  generalize (List.filter (fun e => decide (e.born ≥ since)) (List.filter (fun e => !seen.contains e.born) es)) = ne at hn ha ⊢
  generalize (List.filter (fun e => decide (e.born ≥ since)) (List.filter (fun e => !seen.contains e.born) fs)) = nf at hn ha ⊢
  have hl := ha.len
  have main : ∀ (i : Nat) (f : MapEntry), (of ++ nf)[i]? = some f → ∃ e, ((oe ++ ne).map some)[i]? = some (some e) ∧ VR E e.key f.key ∧ VR E e.val f.val ∧ e.born = f.born := fun i f hf => by
    obtain ⟨e, he, h1, h2, h3⟩ := ha.get hf
    exact ⟨e, by rw [List.getElem?_map, he]; rfl, h1, h2, h3⟩
  have hol := ho.len
  cases oe with
  | nil =>
    have : of = [] := List.eq_nil_of_length_eq_zero (by simpa using hol.symm)
    subst this
    refine ⟨by simp at hl ⊢; omega, by simp, fun i o hi => ?_⟩
    cases i with
    | zero => simp at hi; subst hi; rfl
    | succ i =>
      simp only [List.isEmpty_nil, cond_true, List.cons_append, List.nil_append, List.getElem?_cons_succ] at hi ⊢
      rw [List.getElem?_map] at hi
      cases hq : nf[i]? with
      | none => rw [hq] at hi; cases hi
      | some f => rw [hq] at hi; cases hi; exact main i f (by simpa using hq)
  | cons e0 oe =>
    cases of with
    | nil => simp at hol
    | cons f0 of =>
      refine ⟨by simp at hl ⊢; omega, by simp, fun i o hi => ?_⟩
      simp only [List.isEmpty_cons, cond_false, List.nil_append] at hi ⊢
      rw [List.getElem?_map] at hi
      cases hq : (f0 :: of ++ nf)[i]? with
      | none => rw [hq] at hi; cases hi
      | some f => rw [hq] at hi; cases hi; exact main i f hq

theorem range_does {t : TypeId} {x z : AV} {xv : Value} (h : rangeA P S t x = some (z, S')) (hx : VR E x xv) (hr : HR E S.heap.get w) (pr : PR E w) (hS : ¬ E.dom S.next) : DoesV P (Instr.range t xv) E S w z S' := by
  unfold rangeA at h
  simp only [o2_eq, on3_eq, ob_some] at h
  obtain ⟨e, he, h⟩ := h
  obtain ⟨a1, a2, a3, a4⟩ := add_self E S.next w.heap.size 0 0
  split at h
  · rename_i k v hund
    cases h
    simp only [VR] at hx
    subst hx
    refine ⟨.pointer (some ⟨w.heap.size, 0, none⟩), { w with heap := w.heap.push (.mapIter none 0 #[] 0) }, E.add S.next w.heap.size 0 0, ?_, ?_, newB_does (o := .mapIter none 0 #[] 0) hr pr hS (by simp only [BR]; exact ⟨(fun k hk => by cases hk), a3, rfl⟩) rfl ⟨rfl, rfl, rfl⟩⟩
    · simp [Instr.range, r_und he, hund]
    · simp only [VR]; exact ⟨a1, by rw [a2, a3]⟩
  · rename_i k v n hund
    simp only [o2_eq, on3_eq, ob_some, Option.some.injEq, Prod.mk.injEq] at h
    obtain ⟨⟨es, c⟩, hes, rfl, rfl⟩ := h
    simp only [VR] at hx
    obtain ⟨hd, rfl⟩ := hx
    obtain ⟨arr, ho, hm⟩ := hr.entries hes
    have hne : n ≠ S.next := fun e => hS (by rw [← e]; exact hd)
    have hb : (E.add S.next w.heap.size 0 0).blk n = E.blk n := (Ext.add hS w.heap.size 0 0).blk n hd
    refine ⟨.pointer (some ⟨w.heap.size, 0, none⟩), { w with heap := w.heap.push (.mapIter (some (E.blk n)) c #[] c) }, E.add S.next w.heap.size 0 0, ?_, ?_, newB_does (o := .mapIter (some (E.blk n)) c #[] c) hr pr hS (by simp only [BR]; exact ⟨(fun k hk => by cases hk; exact (Ext.add hS w.heap.size 0 0).dom n hd), a3, by simp [hb]⟩) rfl ⟨rfl, rfl, rfl⟩⟩
    · simp [Instr.range, r_und he, hund, run_getMap ho]
    · simp only [VR]; exact ⟨a1, by rw [a2, a3]⟩
  · cases h

theorem entry_does {x z : AV} {xv : Value} (h : entryA S x = some z) (hx : VR E x xv) (hr : HR E S.heap.get w) (pr : PR E w) : DoesV P (Instr.entry xv) E S w z S := by
  unfold entryA at h
  split at h
  · rename_i r
    simp only [o2_eq, on3_eq, ob_some] at h
    obtain ⟨b, hb, h⟩ := h
    split at h
    · rename_i m since seen stepped
      simp only [o2_eq, on3_eq, ob_some, chk_some, nbeq_iff, Option.some.injEq] at h
      obtain ⟨stamp, hst, ⟨es, c⟩, hes, _, hc, e, hf, rfl⟩ := h
      dsimp only at hc hf
      obtain ⟨hd, hsh, ho⟩ := iter_rel hr hb
      obtain ⟨arr, ho2, hm⟩ := hr.entries hes
      obtain ⟨f, hf2, hk, hv⟩ := MR.find (p := fun b => b == stamp) hm hf
      simp only [VR] at hx
      obtain ⟨_, rfl⟩ := hx
      rw [hsh]
      have hback : seen.toArray.back? = some stamp := by simpa using hst
      refine DoesV.same hr pr (v' := .tuple #[f.key, f.val]) ?_ (VR.tup2 hk hv)
      simp only [Nat.zero_add, Instr.entry, Sem.run_bind, run_getIter ho, Result.andThen_ok, Option.map_some, hback, run_getMap ho2]
      rw [show (c != stepped) = false by simp [hc]]
      simp only [Bool.false_eq_true, if_false]
      have hf3 : arr.find? (fun e => e.born == stamp) = some f := by
        rw [← Array.find?_toList]; exact hf2
      simp [hf3]
    · cases h
  · cases h

/-- one of the entries that may come does -/
theorem next_does {x : AV} {xv : Value} {ty : TypeId} {outs : List (AV × St)} (h : nextA S x = some outs) (hx : VR E x xv) (hr : HR E S.heap.get w) (pr : PR E w) : ∃ r ∈ outs, DoesV P (Instr.next xv false ty) E S w r.1 r.2 := by
  have over : VR E (.tup [.bool false]) (.tuple #[.bool false]) := by
    simp only [VR]
    exact ⟨_, rfl, VRP.cons_iff.2 ⟨by simp only [VR], VRP.nil⟩, rfl⟩
  unfold nextA at h
  split at h
  · rename_i r
    simp only [o2_eq, on3_eq, ob_some] at h
    obtain ⟨b, hb, h⟩ := h
    simp only [VR] at hx
    obtain ⟨hdr, rfl⟩ := hx
    split at h
    · rename_i since seen last
      cases h
      obtain ⟨hd, hsh, ho⟩ := iter_rel hr hb
      rw [hsh]
      refine ⟨_, List.mem_singleton.2 rfl, DoesV.same hr pr (v' := .tuple #[.bool false]) ?_ over⟩
      simp [Instr.next, run_getIter ho]
    · rename_i m since seen last
      simp only [o2_eq, on3_eq, ob_some, chk_some, Option.some.injEq] at h
      obtain ⟨⟨es, c⟩, hes, _, hno, rfl⟩ := h
      obtain ⟨hd, hsh, ho⟩ := iter_rel hr hb
      obtain ⟨arr, ho2, hm⟩ := hr.entries hes
      rw [hsh]
      dsimp only at hno ⊢
      have hall : (arr.all fun e => decide (e.born ≥ last)) = es.all fun e => decide (e.born ≥ last) := by
        rw [← Array.all_toList]; exact (MR.all (p := fun b => decide (b ≥ last)) hm).symm
      have hemp : arr.isEmpty = es.isEmpty := by
        have := hm.len
        cases es with
        | nil => simp at this; simp [Array.isEmpty, ← this]
        | cons e es => simp at this; simp [Array.isEmpty, ← this]
      have hsemp : seen.toArray.isEmpty = seen.isEmpty := by cases seen <;> rfl
      obtain ⟨hcl, hcp, hcg⟩ := cand_get (since := since) (seen := seen) hm
      have hcand : ((if (Array.filter (fun e => decide (e.born < since)) (Array.filter (fun e => !seen.toArray.contains e.born) arr)).isEmpty = true then #[none] else #[]) ++ (Array.filter (fun e => decide (e.born < since)) (Array.filter (fun e => !seen.toArray.contains e.born) arr) ++ Array.filter (fun e => decide (e.born ≥ since)) (Array.filter (fun e => !seen.toArray.contains e.born) arr)).map some : Array (Option MapEntry)) = (candF arr.toList since seen).toArray := by
        have hc : ∀ b : Nat, seen.toArray.contains b = seen.contains b := fun b => by simp
        rw [← Array.toList_inj]
        unfold candF
        simp only [hc, Array.toList_append, Array.toList_map, Array.toList_filter]
        congr 1
        cases hO : (List.filter (fun e => decide (e.born < since)) (List.filter (fun e => !seen.contains e.born) arr.toList)) with
        | nil =>
          have : (Array.filter (fun e => decide (e.born < since)) (Array.filter (fun e => !seen.contains e.born) arr)).isEmpty = true := by
            rw [← Array.isEmpty_toList, Array.toList_filter, Array.toList_filter, hO]; rfl
          rw [if_pos this]; rfl
        | cons x l =>
          have : (Array.filter (fun e => decide (e.born < since)) (Array.filter (fun e => !seen.contains e.born) arr)).isEmpty = false := by
            rw [← Array.isEmpty_toList, Array.toList_filter, Array.toList_filter, hO]; rfl
          rw [if_neg (by rw [this]; simp)]; rfl
      have step : ∀ (i : Nat) (w1 : World), w1.heap = w.heap → Env w w1 → i < (candF arr.toList since seen).length → ∃ p0 ∈ (candA es since seen).map (fun o => match o with
          | none => (AV.tup [.bool false], S)
          | some e => (AV.tup [.bool true, e.key, e.val], { S with heap := S.heap.put r (.iter (some m) since (seen ++ [e.born]) c) })), ∃ v' w' E', (match (candF arr.toList since seen)[i]? with
            | some (some e) => do
              setObj (E.blk r) (.mapIter (some (E.blk m)) since (seen.toArray.push e.born) c)
              pure (.tuple #[.bool true, e.key, e.val])
            | some none => pure (.tuple #[.bool false])
            | none => stuck "Next: no such candidate" : Sem Value).run P w1 = .ok v' w' ∧ VR E' p0.1 v' ∧ Tran E S.heap.get w S.next E' p0.2.heap.get w' p0.2.next := fun i w1 hw1 he1 hi => by
        obtain ⟨o, hgo⟩ : ∃ o, (candF arr.toList since seen)[i]? = some o := ⟨_, List.getElem?_eq_getElem hi⟩
        have hg := hcg i o hgo
        rw [hgo]
        cases o with
        | none =>
          refine ⟨_, List.mem_map.2 ⟨none, List.mem_of_getElem? hg, rfl⟩, .tuple #[.bool false], w1, E, rfl, over, ?_⟩
          exact Tran.fromHeap (Tran.refl S.next (hr.sameHeap hw1) (pr.sameHeap hw1)) hw1 he1
        | some f =>
          obtain ⟨e, hge, hk, hv, hbn⟩ := hg
          have ho1 : w1.heap[E.blk r]? = some (.mapIter (some (E.blk m)) since seen.toArray last) := by rw [hw1]; exact ho
          have hv3 : VR E (.tup [.bool true, e.key, e.val]) (.tuple #[.bool true, f.key, f.val]) := by
            simp only [VR]
            exact ⟨_, rfl, VRP.cons_iff.2 ⟨by simp only [VR], VRP.cons_iff.2 ⟨hk, VRP.cons_iff.2 ⟨hv, VRP.nil⟩⟩⟩, rfl⟩
          refine ⟨_, List.mem_map.2 ⟨some e, List.mem_of_getElem? hge, rfl⟩, .tuple #[.bool true, f.key, f.val], { w1 with heap := w1.heap.setIfInBounds (E.blk r) (.mapIter (some (E.blk m)) since (seen.toArray.push f.born) c) }, E, ?_, hv3, ?_⟩
          · simp [run_setIter ho1]
          · refine Tran.fromHeap (Tran.set S.next (hr.sameHeap hw1) (pr.sameHeap hw1) (n := r) hb rfl rfl ⟨rfl, rfl, rfl⟩ (fun k => by rw [Tr.get_put]) ?_) hw1 he1
            simp only [BR]
            exact ⟨hd, hsh, by simp [hbn]⟩
      have hg0 : (!seen.toArray.isEmpty && !arr.isEmpty && arr.all (fun x => decide (x.born ≥ last))) = false := by
        rw [hsemp, hemp, hall]; exact (Bool.not_eq_true' _).mp hno
      have run : ∀ (i : Nat) (w1 : World), (choose (.mapNext (candF arr.toList since seen).toArray.size)).run P w = .ok i w1 → (Instr.next (.pointer (some ⟨E.blk r, 0 + 0, none⟩)) false ty).run P w = (match (candF arr.toList since seen)[i]? with
            | some (some e) => do
              setObj (E.blk r) (.mapIter (some (E.blk m)) since (seen.toArray.push e.born) c)
              pure (.tuple #[.bool true, e.key, e.val])
            | some none => pure (.tuple #[.bool false])
            | none => stuck "Next: no such candidate" : Sem Value).run P w1 := fun i w1 hch => by
        simp only [Instr.next, Nat.zero_add, Sem.run_bind, run_getIter ho, Result.andThen_ok, Option.map_some, run_getMap ho2, hg0, Bool.false_eq_true, if_false]
        rw [hcand, hch]
        simp only [Result.andThen_ok, List.getElem?_toArray]
        generalize (candF arr.toList since seen)[i]? = o
        cases o with
        | none => rfl
        | some o => cases o <;> rfl
      obtain ⟨i, w1, hch, hw1, he1, hi⟩ : ∃ i w1, (choose (.mapNext (candF arr.toList since seen).toArray.size)).run P w = .ok i w1 ∧ w1.heap = w.heap ∧ Env w w1 ∧ i < (candF arr.toList since seen).length := by
        rw [run_choose, List.size_toArray]
        by_cases hf : (Question.mapNext (candF arr.toList since seen).length).forced = true
        · exact ⟨_, _, if_pos hf, rfl, Env.refl w, hcp⟩
        · exact ⟨_, _, if_neg hf, rfl, ⟨rfl, rfl, rfl⟩, Nat.mod_lt _ hcp⟩
      obtain ⟨p0, hp0, v', w', E', h1, h2, h3⟩ := step i w1 hw1 he1 hi
      exact ⟨p0, hp0, v', w', E', (run i w1 hch).trans h1, h2, h3⟩
    · cases h
  · cases h
end
end Go.Eng
namespace Go.Eng
set_option linter.unusedSectionVars false
variable [Gl] [Mx]
section
variable {P : Program} {E : Gh} {S S' : St} {w : World} {T : Tm}

theorem buildSlice_next {t : TypeId} {n : Nat} {vs : List (Nat × AV)} {v : AV} (h : buildSliceA P S t n vs = some (v, S')) : S.next < S'.next := by
  unfold buildSliceA at h
  rw [ob_some] at h; obtain ⟨_, _, h⟩ := h
  rw [ob_some] at h; obtain ⟨_, _, h⟩ := h
  rw [ob_some] at h; obtain ⟨_, _, h⟩ := h
  rw [ob_some] at h; obtain ⟨_, _, h⟩ := h
  rw [ob_some] at h; obtain ⟨_, _, h⟩ := h
  have := (Prod.mk.inj (Option.some.inj h)).2
  rw [← this]
  exact Nat.lt_succ_self _

theorem makeSlice_next {t : TypeId} {l c v : AV} (h : makeSliceA P S t l c = some (v, S')) : S.next < S'.next := by
  unfold makeSliceA at h
  rw [ob_some] at h; obtain ⟨_, _, h⟩ := h
  rw [ob_some] at h; obtain ⟨_, _, h⟩ := h
  rw [ob_some] at h; obtain ⟨_, _, h⟩ := h
  rw [ob_some] at h; obtain ⟨_, _, h⟩ := h
  rw [ob_some] at h; obtain ⟨_, _, h⟩ := h
  rw [ob_some] at h; obtain ⟨_, _, h⟩ := h
  have := (Prod.mk.inj (Option.some.inj h)).2
  rw [← this]
  exact Nat.lt_succ_self _

theorem sim_move {pol : FuncId → Bool} {rec : RunT} {dst : Option Tmp} {type : TypeId} {pos : String} {after : Array Edge} {guard : Option (Nat × Bool)} {x : Operand} {a : Act} {v : AV} (h : (aOp pol P (Op.move x)).f rec T S = some (v, S'))
    (ho : ∀ y0 ∈ (Op.move x).operands.toList, ∀ u, ev T y0 = some u → VR E u (a.eval y0)) (hr : HR E S.heap.get w) (pr : PR E w) 
    {next : Act → World → Prop} {Q : Exit → Act → World → Prop}
    (hn : ∀ v' w' E', VR E' v v' → Tran E S.heap.get w S.next E' S'.heap.get w' S'.next → next (a.put dst v') w') : (⟨dst, .move x, type, pos, after, guard⟩ : Oper).wp P a w next Q := by
  simp only [aOp, o2_eq, on3_eq, ob_some, Option.some.injEq, Prod.mk.injEq] at h
  obtain ⟨u, hu, rfl, rfl⟩ := h
  exact wp_of_does (Does.val hr pr (ho x (by simp [Op.operands]) u hu)) hn

theorem sim_assign {pol : FuncId → Bool} {rec : RunT} {dst : Option Tmp} {type : TypeId} {pos : String} {after : Array Edge} {guard : Option (Nat × Bool)} {x : Operand} {a : Act} {v : AV} (h : (aOp pol P (Op.assign x)).f rec T S = some (v, S'))
    (ho : ∀ y0 ∈ (Op.assign x).operands.toList, ∀ u, ev T y0 = some u → VR E u (a.eval y0)) (hr : HR E S.heap.get w) (pr : PR E w) 
    {next : Act → World → Prop} {Q : Exit → Act → World → Prop}
    (hn : ∀ v' w' E', VR E' v v' → Tran E S.heap.get w S.next E' S'.heap.get w' S'.next → next (a.put dst v') w') : (⟨dst, .assign x, type, pos, after, guard⟩ : Oper).wp P a w next Q := by
  simp only [aOp, o2_eq, on3_eq, ob_some, Option.some.injEq, Prod.mk.injEq] at h
  obtain ⟨u, hu, rfl, rfl⟩ := h
  exact wp_of_does (Does.val hr pr (ho x (by simp [Op.operands]) u hu)) hn

theorem sim_pick {pol : FuncId → Bool} {rec : RunT} {dst : Option Tmp} {type : TypeId} {pos : String} {after : Array Edge} {guard : Option (Nat × Bool)} {c x y : Operand} {a : Act} {v : AV} (h : (aOp pol P (Op.pick c x y)).f rec T S = some (v, S'))
    (ho : ∀ y0 ∈ (Op.pick c x y).operands.toList, ∀ u, ev T y0 = some u → VR E u (a.eval y0)) (hr : HR E S.heap.get w) (pr : PR E w) 
    {next : Act → World → Prop} {Q : Exit → Act → World → Prop}
    (hn : ∀ v' w' E', VR E' v v' → Tran E S.heap.get w S.next E' S'.heap.get w' S'.next → next (a.put dst v') w') : (⟨dst, .pick c x y, type, pos, after, guard⟩ : Oper).wp P a w next Q := by
  simp only [aOp, o2_eq, on3_eq, ob_some] at h
  obtain ⟨u, hu, h⟩ := h
  have hc := ho c (by simp [Op.operands]) u hu
  split at h
  · simp only [o2_eq, on3_eq, ob_some, Option.some.injEq, Prod.mk.injEq] at h
    obtain ⟨u', hu', rfl, rfl⟩ := h
    simp only [VR] at hc
    exact wp_of_does (by simpa [execOp, hc, asBool] using Does.val hr pr (ho x (by simp [Op.operands]) u' hu')) hn
  · simp only [o2_eq, on3_eq, ob_some, Option.some.injEq, Prod.mk.injEq] at h
    obtain ⟨u', hu', rfl, rfl⟩ := h
    simp only [VR] at hc
    exact wp_of_does (by simpa [execOp, hc, asBool] using Does.val hr pr (ho y (by simp [Op.operands]) u' hu')) hn
  · cases h

theorem sim_alloc {pol : FuncId → Bool} {rec : RunT} {dst : Option Tmp} {type : TypeId} {pos : String} {after : Array Edge} {guard : Option (Nat × Bool)} {t : TypeId} {a : Act} {v : AV} (h : (aOp pol P (Op.alloc t)).f rec T S = some (v, S'))
    (_ho : ∀ y0 ∈ (Op.alloc t).operands.toList, ∀ u, ev T y0 = some u → VR E u (a.eval y0)) (hr : HR E S.heap.get w) (pr : PR E w) (fresh : ∀ n, S.next ≤ n → n < S'.next → ¬ E.dom n)
    {next : Act → World → Prop} {Q : Exit → Act → World → Prop}
    (hn : ∀ v' w' E', VR E' v v' → Tran E S.heap.get w S.next E' S'.heap.get w' S'.next → next (a.put dst v') w') : (⟨dst, .alloc t, type, pos, after, guard⟩ : Oper).wp P a w next Q := by
  simp only [aOp] at h
  split at h
  · rename_i e he
    cases har : Mx.ar t <;> rw [har] at h
    · simp only [cond_false, Option.some.injEq, Prod.mk.injEq] at h
      obtain ⟨rfl, rfl⟩ := h
      exact wp_of_does (Does.ofV (alloc_does he hr pr (fresh _ (Nat.le_refl _) (Nat.lt_succ_self _)))) hn
    · have h : allocArr P e S = some (v, S') := h
      have hS : S' = newB S (.cells e.zero.cells) := by
        unfold allocArr at h
        split at h
        · simp only [o2_eq, on3_eq, ob_some, Option.some.injEq, Prod.mk.injEq] at h
          obtain ⟨_, _, _, _, _, rfl⟩ := h
          rfl
        · cases h
      have hf : ¬ E.dom S.next := fresh _ (Nat.le_refl _) (by rw [hS]; exact Nat.lt_succ_self _)
      exact wp_of_does (Does.ofV (allocArr_does he h hr pr hf).2) hn
  · cases h

theorem sim_box {pol : FuncId → Bool} {rec : RunT} {dst : Option Tmp} {type : TypeId} {pos : String} {after : Array Edge} {guard : Option (Nat × Bool)} {t : TypeId} {x : Operand} {a : Act} {v : AV} (h : (aOp pol P (Op.box t x)).f rec T S = some (v, S'))
    (ho : ∀ y0 ∈ (Op.box t x).operands.toList, ∀ u, ev T y0 = some u → VR E u (a.eval y0)) (hr : HR E S.heap.get w) (pr : PR E w) (fresh : ∀ n, S.next ≤ n → n < S'.next → ¬ E.dom n)
    {next : Act → World → Prop} {Q : Exit → Act → World → Prop}
    (hn : ∀ v' w' E', VR E' v v' → Tran E S.heap.get w S.next E' S'.heap.get w' S'.next → next (a.put dst v') w') : (⟨dst, .box t x, type, pos, after, guard⟩ : Oper).wp P a w next Q := by
  simp only [aOp] at h
  split at h
  · simp only [o2_eq, on3_eq, ob_some, Option.some.injEq, Prod.mk.injEq] at h
    obtain ⟨u, hu, rfl, rfl⟩ := h
    exact wp_of_does (Does.ofV (box_does (ho x (by simp [Op.operands]) u hu) hr pr (fresh _ (Nat.le_refl _) (Nat.lt_succ_self _)))) hn
  · cases h

theorem sim_build {pol : FuncId → Bool} {rec : RunT} {dst : Option Tmp} {type : TypeId} {pos : String} {after : Array Edge} {guard : Option (Nat × Bool)} {t : TypeId} {ps : Array (Nat × Operand)} {a : Act} {v : AV} (h : (aOp pol P (Op.build t ps)).f rec T S = some (v, S'))
    (ho : ∀ y0 ∈ (Op.build t ps).operands.toList, ∀ u, ev T y0 = some u → VR E u (a.eval y0)) (hr : HR E S.heap.get w) (pr : PR E w) 
    {next : Act → World → Prop} {Q : Exit → Act → World → Prop}
    (hn : ∀ v' w' E', VR E' v v' → Tran E S.heap.get w S.next E' S'.heap.get w' S'.next → next (a.put dst v') w') : (⟨dst, .build t ps, type, pos, after, guard⟩ : Oper).wp P a w next Q := by
  simp only [aOp, o2_eq, on3_eq, ob_some, Option.some.injEq, Prod.mk.injEq] at h
  obtain ⟨vs, hvs, u, hu, rfl, rfl⟩ := h
  have hp := evp_rel (ρ := a.eval) hvs (fun x hx => ho x.2 (by simp only [Op.operands]; simp; exact ⟨x.1, by simpa using hx⟩))
  obtain ⟨u', hrun, hv⟩ := build_rel (P := P) (E := E) (qs := ps.map fun (i, x) => (i, a.eval x)) hu (by simpa using hp)
  exact wp_of_does (Does.ofV (DoesV.same hr pr (hrun w) hv)) hn

theorem sim_buildSlice {pol : FuncId → Bool} {rec : RunT} {dst : Option Tmp} {type : TypeId} {pos : String} {after : Array Edge} {guard : Option (Nat × Bool)} {t : TypeId} {n : Nat} {ps : Array (Nat × Operand)} {a : Act} {v : AV} (h : (aOp pol P (Op.buildSlice t n ps)).f rec T S = some (v, S'))
    (ho : ∀ y0 ∈ (Op.buildSlice t n ps).operands.toList, ∀ u, ev T y0 = some u → VR E u (a.eval y0)) (hr : HR E S.heap.get w) (pr : PR E w) (fresh : ∀ n, S.next ≤ n → n < S'.next → ¬ E.dom n)
    {next : Act → World → Prop} {Q : Exit → Act → World → Prop}
    (hn : ∀ v' w' E', VR E' v v' → Tran E S.heap.get w S.next E' S'.heap.get w' S'.next → next (a.put dst v') w') : (⟨dst, .buildSlice t n ps, type, pos, after, guard⟩ : Oper).wp P a w next Q := by
  simp only [aOp, o2_eq, on3_eq, ob_some] at h
  obtain ⟨vs, hvs, h⟩ := h
  have hp := evp_rel (ρ := a.eval) hvs (fun x hx => ho x.2 (by simp only [Op.operands]; simp; exact ⟨x.1, by simpa using hx⟩))
  cases hbt : Mx.bt t <;> rw [hbt] at h
  · rw [bc_false] at h
    have hS : ¬ E.dom S.next := fresh _ (Nat.le_refl _) (buildSlice_next h)
    have hd := buildSlice_does (P := P) (qs := ps.map fun (i, x) => (i, a.eval x)) h (by simpa using hp) hr pr hS
    refine wp_of_does ?_ hn
    simp only [execOp]
    generalize Instr.buildSlice t n (ps.map fun (i, x) => (i, a.eval x)) = s at hd
    exact Does.ofV hd
  · rw [bc_true] at h
    simp only [o2_eq, on3_eq, ob_some] at h
    obtain ⟨⟨vs', S1⟩, hz, h⟩ := h
    dsimp only at h
    obtain ⟨E1, hp1, hn1, t1⟩ := frzP_ok _ _ _ E S S1 w hz hp hr pr
    have hS : ¬ E1.dom S1.next := fun hd => by
      rcases t1.dom _ hd with d | ⟨d1, d2⟩
      · rw [hn1] at d; exact fresh _ (Nat.le_refl _) (by have := buildSlice_next h; omega) d
      · omega
    obtain ⟨v', w', E', hrun, hv, ht⟩ := buildSlice_does (P := P) (qs := ps.map fun (i, x) => (i, a.eval x)) h (by simpa using hp1) t1.hr t1.pr hS
    rw [hn1] at ht
    have hd : DoesV P (Instr.buildSlice t n (ps.map fun (i, x) => (i, a.eval x))) E S w v S' := ⟨v', w', E', hrun, hv, t1.trans ht⟩
    refine wp_of_does ?_ hn
    simp only [execOp]
    generalize Instr.buildSlice t n (ps.map fun (i, x) => (i, a.eval x)) = s at hd
    exact Does.ofV hd

theorem sim_load {pol : FuncId → Bool} {rec : RunT} {dst : Option Tmp} {type : TypeId} {pos : String} {after : Array Edge} {guard : Option (Nat × Bool)} {t : TypeId} {p : Operand} {a : Act} {v : AV} (h : (aOp pol P (Op.load t p)).f rec T S = some (v, S'))
    (ho : ∀ y0 ∈ (Op.load t p).operands.toList, ∀ u, ev T y0 = some u → VR E u (a.eval y0)) (hr : HR E S.heap.get w) (pr : PR E w) 
    {next : Act → World → Prop} {Q : Exit → Act → World → Prop}
    (hn : ∀ v' w' E', VR E' v v' → Tran E S.heap.get w S.next E' S'.heap.get w' S'.next → next (a.put dst v') w') : (⟨dst, .load t p, type, pos, after, guard⟩ : Oper).wp P a w next Q := by
  simp only [aOp] at h
  split at h
  · rename_i e he
    simp only [o2_eq, on3_eq, ob_some, Option.some.injEq, Prod.mk.injEq] at h
    obtain ⟨q, hq, u, hu, rfl, rfl⟩ := h
    exact wp_of_does (Does.ofV ((load_does he hu (ho p (by simp [Op.operands]) q hq) hr pr).toV hr pr)) hn
  · cases h

theorem sim_store {pol : FuncId → Bool} {rec : RunT} {dst : Option Tmp} {type : TypeId} {pos : String} {after : Array Edge} {guard : Option (Nat × Bool)} {t : TypeId} {p x : Operand} {a : Act} {v : AV} (h : (aOp pol P (Op.store t p x)).f rec T S = some (v, S'))
    (ho : ∀ y0 ∈ (Op.store t p x).operands.toList, ∀ u, ev T y0 = some u → VR E u (a.eval y0)) (hr : HR E S.heap.get w) (pr : PR E w) 
    {next : Act → World → Prop} {Q : Exit → Act → World → Prop}
    (hn : ∀ v' w' E', VR E' v v' → Tran E S.heap.get w S.next E' S'.heap.get w' S'.next → next (a.put dst v') w') : (⟨dst, .store t p x, type, pos, after, guard⟩ : Oper).wp P a w next Q := by
  simp only [aOp] at h
  split at h
  · rename_i e he
    simp only [o2_eq, on3_eq, ob_some, Option.some.injEq, Prod.mk.injEq] at h
    obtain ⟨q, hq, u, hu, ⟨u', S2⟩, hfz, S1, hS1, rfl, rfl⟩ := h
    obtain ⟨E2, hu2, hn2, t2⟩ := frzT_ok _ E S S2 w u u' _ hfz (ho x (by simp [Op.operands]) u hu) hr pr
    obtain ⟨w', hrun, ht⟩ := store_does (P := P) he hS1 (VR.mono t2.ext _ _ (ho p (by simp [Op.operands]) q hq)) hu2 t2.hr t2.pr
    dsimp only at ht
    rw [hn2] at ht
    exact wp_of_does (Does.unit2 hrun (t2.trans ht)) hn
  · cases h

theorem sim_nilCheck {pol : FuncId → Bool} {rec : RunT} {dst : Option Tmp} {type : TypeId} {pos : String} {after : Array Edge} {guard : Option (Nat × Bool)} {x : Operand} {a : Act} {v : AV} (h : (aOp pol P (Op.nilCheck x)).f rec T S = some (v, S'))
    (ho : ∀ y0 ∈ (Op.nilCheck x).operands.toList, ∀ u, ev T y0 = some u → VR E u (a.eval y0)) (hr : HR E S.heap.get w) (pr : PR E w) 
    {next : Act → World → Prop} {Q : Exit → Act → World → Prop}
    (hn : ∀ v' w' E', VR E' v v' → Tran E S.heap.get w S.next E' S'.heap.get w' S'.next → next (a.put dst v') w') : (⟨dst, .nilCheck x, type, pos, after, guard⟩ : Oper).wp P a w next Q := by
  simp only [aOp, o2_eq, on3_eq, ob_some] at h
  obtain ⟨u, hu, h⟩ := h
  have hx := ho x (by simp [Op.operands]) u hu
  split at h
  · cases h
  · cases h
  · cases h
  · rename_i n1 n2 n3
    cases h
    refine wp_of_does (S' := S) ?_ hn
    have : execOp a.eval ⟨dst, .nilCheck x, type, pos, after, guard⟩ = pure (.value (a.eval x)) := by
      simp only [execOp]
      generalize a.eval x = y at hx
      cases v <;> simp only [VR] at hx
      case nilp => exact absurd rfl n1
      case nilf => exact absurd rfl n3
      case nili => exact absurd rfl n2
      case func => obtain ⟨_, _, rfl, _⟩ := hx; rfl
      case mp => obtain ⟨_, rfl⟩ := hx; rfl
      case pa => obtain ⟨_, rfl, _⟩ := hx; rfl
      case fp => obtain ⟨_, _, rfl, _⟩ := hx; rfl
      case ms => obtain ⟨_, _, rfl, _⟩ := hx; rfl
      case fs => rcases hx with ⟨_, _, _, _, rfl, _⟩ | ⟨_, _, rfl⟩ <;> rfl
      case map => obtain ⟨_, rfl⟩ := hx; rfl
      case iface => obtain ⟨_, rfl, _⟩ := hx; rfl
      case agg => obtain ⟨_, rfl, _⟩ := hx; rfl
      case tup => obtain ⟨_, rfl, _⟩ := hx; rfl
      all_goals (subst hx; rfl)
    rw [this]
    exact Does.val hr pr hx

theorem sim_binOp {pol : FuncId → Bool} {rec : RunT} {dst : Option Tmp} {type : TypeId} {pos : String} {after : Array Edge} {guard : Option (Nat × Bool)} {op : BinOp} {t : TypeId} {x y : Operand} {yt : TypeId} {a : Act} {v : AV} (h : (aOp pol P (Op.binOp op t x y yt)).f rec T S = some (v, S'))
    (ho : ∀ y0 ∈ (Op.binOp op t x y yt).operands.toList, ∀ u, ev T y0 = some u → VR E u (a.eval y0)) (hr : HR E S.heap.get w) (pr : PR E w) 
    {next : Act → World → Prop} {Q : Exit → Act → World → Prop}
    (hn : ∀ v' w' E', VR E' v v' → Tran E S.heap.get w S.next E' S'.heap.get w' S'.next → next (a.put dst v') w') : (⟨dst, .binOp op t x y yt, type, pos, after, guard⟩ : Oper).wp P a w next Q := by
  simp only [aOp, o2_eq, on3_eq, ob_some, Option.some.injEq, Prod.mk.injEq] at h
  obtain ⟨u, hu, u', hu', z, hz, rfl, rfl⟩ := h
  exact wp_of_does (Does.ofV (bin_does hz (ho x (by simp [Op.operands]) u hu) (ho y (by simp [Op.operands]) u' hu') hr pr)) hn

theorem sim_unOp {pol : FuncId → Bool} {rec : RunT} {dst : Option Tmp} {type : TypeId} {pos : String} {after : Array Edge} {guard : Option (Nat × Bool)} {op : UnOp} {t : TypeId} {x : Operand} {a : Act} {v : AV} (h : (aOp pol P (Op.unOp op t x)).f rec T S = some (v, S'))
    (ho : ∀ y0 ∈ (Op.unOp op t x).operands.toList, ∀ u, ev T y0 = some u → VR E u (a.eval y0)) (hr : HR E S.heap.get w) (pr : PR E w) 
    {next : Act → World → Prop} {Q : Exit → Act → World → Prop}
    (hn : ∀ v' w' E', VR E' v v' → Tran E S.heap.get w S.next E' S'.heap.get w' S'.next → next (a.put dst v') w') : (⟨dst, .unOp op t x, type, pos, after, guard⟩ : Oper).wp P a w next Q := by
  simp only [aOp, o2_eq, on3_eq, ob_some, Option.some.injEq, Prod.mk.injEq] at h
  obtain ⟨u, hu, z, hz, rfl, rfl⟩ := h
  exact wp_of_does (Does.ofV (un_does hz (ho x (by simp [Op.operands]) u hu) hr pr)) hn

theorem sim_convert {pol : FuncId → Bool} {rec : RunT} {dst : Option Tmp} {type : TypeId} {pos : String} {after : Array Edge} {guard : Option (Nat × Bool)} {s d : TypeId} {x : Operand} {a : Act} {v : AV} (h : (aOp pol P (Op.convert s d x)).f rec T S = some (v, S'))
    (ho : ∀ y0 ∈ (Op.convert s d x).operands.toList, ∀ u, ev T y0 = some u → VR E u (a.eval y0)) (hr : HR E S.heap.get w) (pr : PR E w) 
    {next : Act → World → Prop} {Q : Exit → Act → World → Prop}
    (hn : ∀ v' w' E', VR E' v v' → Tran E S.heap.get w S.next E' S'.heap.get w' S'.next → next (a.put dst v') w') : (⟨dst, .convert s d x, type, pos, after, guard⟩ : Oper).wp P a w next Q := by
  simp only [aOp, o2_eq, on3_eq, ob_some, Option.some.injEq, Prod.mk.injEq] at h
  obtain ⟨u, hu, z, hz, rfl, rfl⟩ := h
  exact wp_of_does (Does.ofV ((conv_does hz (ho x (by simp [Op.operands]) u hu) hr pr).toV hr pr)) hn

theorem sim_makeInterface {pol : FuncId → Bool} {rec : RunT} {dst : Option Tmp} {type : TypeId} {pos : String} {after : Array Edge} {guard : Option (Nat × Bool)} {t : TypeId} {x : Operand} {a : Act} {v : AV} (h : (aOp pol P (Op.makeInterface t x)).f rec T S = some (v, S'))
    (ho : ∀ y0 ∈ (Op.makeInterface t x).operands.toList, ∀ u, ev T y0 = some u → VR E u (a.eval y0)) (hr : HR E S.heap.get w) (pr : PR E w) 
    {next : Act → World → Prop} {Q : Exit → Act → World → Prop}
    (hn : ∀ v' w' E', VR E' v v' → Tran E S.heap.get w S.next E' S'.heap.get w' S'.next → next (a.put dst v') w') : (⟨dst, .makeInterface t x, type, pos, after, guard⟩ : Oper).wp P a w next Q := by
  simp only [aOp, o2_eq, on3_eq, ob_some] at h
  obtain ⟨e, he, u, hu, h⟩ := h
  have hx := ho x (by simp [Op.operands]) u hu
  split at h
  · cases h
  · rename_i hi
    cases h
    refine wp_of_does (Does.ofV (DoesV.same hr pr (v' := .iface t (a.eval x)) ?_ (by simp only [VR]; exact ⟨_, rfl, hx⟩))) hn
    rw [Instr.makeInterface, Sem.run_bind, r_und he]
    simp only [Result.andThen_ok]
    cases hd : e.und <;> first | rfl | exact absurd hd (hi _)

theorem sim_makeFunc {pol : FuncId → Bool} {rec : RunT} {dst : Option Tmp} {type : TypeId} {pos : String} {after : Array Edge} {guard : Option (Nat × Bool)} {fn : Fn} {f c : Array Operand} {a : Act} {v : AV} (h : (aOp pol P (Op.makeFunc fn f c)).f rec T S = some (v, S'))
    (ho : ∀ y0 ∈ (Op.makeFunc fn f c).operands.toList, ∀ u, ev T y0 = some u → VR E u (a.eval y0)) (hr : HR E S.heap.get w) (pr : PR E w) 
    {next : Act → World → Prop} {Q : Exit → Act → World → Prop}
    (hn : ∀ v' w' E', VR E' v v' → Tran E S.heap.get w S.next E' S'.heap.get w' S'.next → next (a.put dst v') w') : (⟨dst, .makeFunc fn f c, type, pos, after, guard⟩ : Oper).wp P a w next Q := by
  simp only [aOp] at h
  split at h
  · rename_i g
    simp only [o2_eq, on3_eq, ob_some, Option.some.injEq, Prod.mk.injEq] at h
    obtain ⟨f', hf, c', hc, rfl, rfl⟩ := h
    have h1 := evs_rel (ρ := a.eval) hf (fun x hx => ho x (by simp [Op.operands]; exact .inl (by simpa using hx)))
    have h2 := evs_rel (ρ := a.eval) hc (fun x hx => ho x (by simp [Op.operands]; exact .inr (by simpa using hx)))
    refine wp_of_does (Does.ofV (DoesV.same hr pr (v' := .func (.func g) (f.map a.eval) (c.map a.eval)) rfl ?_)) hn
    simp only [VR]
    exact ⟨_, _, rfl, ⟨by simpa using h1.1, by simpa using h1.2⟩, by simpa using h2.1, by simpa using h2.2⟩
  · cases h

theorem sim_makeMap {pol : FuncId → Bool} {rec : RunT} {dst : Option Tmp} {type : TypeId} {pos : String} {after : Array Edge} {guard : Option (Nat × Bool)} {t : TypeId} {r : Option Operand} {a : Act} {v : AV} (h : (aOp pol P (Op.makeMap t r)).f rec T S = some (v, S'))
    (ho : ∀ y0 ∈ (Op.makeMap t r).operands.toList, ∀ u, ev T y0 = some u → VR E u (a.eval y0)) (hr : HR E S.heap.get w) (pr : PR E w) (fresh : ∀ n, S.next ≤ n → n < S'.next → ¬ E.dom n)
    {next : Act → World → Prop} {Q : Exit → Act → World → Prop}
    (hn : ∀ v' w' E', VR E' v v' → Tran E S.heap.get w S.next E' S'.heap.get w' S'.next → next (a.put dst v') w') : (⟨dst, .makeMap t r, type, pos, after, guard⟩ : Oper).wp P a w next Q := by
  simp only [aOp, o2_eq, on3_eq, ob_some, chk_some, Option.some.injEq, Prod.mk.injEq] at h
  obtain ⟨_, hrn, rfl, rfl⟩ := h
  obtain rfl : r = none := by cases r <;> simp_all
  have hS := fresh _ (Nat.le_refl _) (Nat.lt_succ_self _)
  obtain ⟨a1, a2, a3, a4⟩ := add_self E S.next w.heap.size 0 0
  refine wp_of_does (Does.ofV ⟨.map (some w.heap.size), { w with heap := w.heap.push (.map #[] 0) }, E.add S.next w.heap.size 0 0, ?_, ?_, newB_does (o := .map #[] 0) hr pr hS (by simp only [BR]; exact ⟨#[], rfl, by simp [MR]⟩) rfl ⟨rfl, rfl, rfl⟩⟩) hn
  · simp [Instr.makeMap]
  · simp only [VR]; exact ⟨a1, by rw [a2]⟩

theorem sim_makeSlice {pol : FuncId → Bool} {rec : RunT} {dst : Option Tmp} {type : TypeId} {pos : String} {after : Array Edge} {guard : Option (Nat × Bool)} {t : TypeId} {l c : Operand} {a : Act} {v : AV} (h : (aOp pol P (Op.makeSlice t l c)).f rec T S = some (v, S'))
    (ho : ∀ y0 ∈ (Op.makeSlice t l c).operands.toList, ∀ u, ev T y0 = some u → VR E u (a.eval y0)) (hr : HR E S.heap.get w) (pr : PR E w) (fresh : ∀ n, S.next ≤ n → n < S'.next → ¬ E.dom n)
    {next : Act → World → Prop} {Q : Exit → Act → World → Prop}
    (hn : ∀ v' w' E', VR E' v v' → Tran E S.heap.get w S.next E' S'.heap.get w' S'.next → next (a.put dst v') w') : (⟨dst, .makeSlice t l c, type, pos, after, guard⟩ : Oper).wp P a w next Q := by
  simp only [aOp, o2_eq, on3_eq, ob_some] at h
  obtain ⟨u, hu, u', hu', h⟩ := h
  have hS : ¬ E.dom S.next := fresh _ (Nat.le_refl _) (makeSlice_next h)
  exact wp_of_does (Does.ofV (makeSlice_does h (ho l (by simp [Op.operands]) u hu) (ho c (by simp [Op.operands]) u' hu') hr pr hS)) hn

theorem sim_slice {pol : FuncId → Bool} {rec : RunT} {dst : Option Tmp} {type : TypeId} {pos : String} {after : Array Edge} {guard : Option (Nat × Bool)} {t : TypeId} {x : Operand} {lo hi mx : Option Operand} {a : Act} {v : AV} (h : (aOp pol P (Op.slice t x lo hi mx)).f rec T S = some (v, S'))
    (ho : ∀ y0 ∈ (Op.slice t x lo hi mx).operands.toList, ∀ u, ev T y0 = some u → VR E u (a.eval y0)) (hr : HR E S.heap.get w) (pr : PR E w) 
    {next : Act → World → Prop} {Q : Exit → Act → World → Prop}
    (hn : ∀ v' w' E', VR E' v v' → Tran E S.heap.get w S.next E' S'.heap.get w' S'.next → next (a.put dst v') w') : (⟨dst, .slice t x lo hi mx, type, pos, after, guard⟩ : Oper).wp P a w next Q := by
  simp only [aOp, o2_eq, on3_eq, ob_some, Option.some.injEq, Prod.mk.injEq] at h
  obtain ⟨u, hu, z, hz, rfl, rfl⟩ := h
  cases hb : allN lo hi mx with
  | true =>
    unfold sliceX at hz
    rw [hb, cond_true] at hz
    simp only [allN, Bool.and_eq_true, Option.isNone_iff_eq_none] at hb
    obtain ⟨rfl, rfl, rfl⟩ := hb
    exact wp_of_does (Does.ofV (sliceW_does hz (ho x (by simp [Op.operands]) u hu) hr pr)) hn
  | false =>
  unfold sliceX at hz
  rw [hb, cond_false] at hz
  refine wp_of_does (Does.ofV (slice_does (ρ := a.eval) hz (ho x (by simp [Op.operands]) u hu) (fun y hy => ho y ?_) hr pr)) hn
  rcases hy with rfl | rfl | rfl <;> simp [Op.operands]

theorem sim_fieldAddr {pol : FuncId → Bool} {rec : RunT} {dst : Option Tmp} {type : TypeId} {pos : String} {after : Array Edge} {guard : Option (Nat × Bool)} {s : TypeId} {x : Operand} {f : Nat} {a : Act} {v : AV} (h : (aOp pol P (Op.fieldAddr s x f)).f rec T S = some (v, S'))
    (ho : ∀ y0 ∈ (Op.fieldAddr s x f).operands.toList, ∀ u, ev T y0 = some u → VR E u (a.eval y0)) (hr : HR E S.heap.get w) (pr : PR E w) 
    {next : Act → World → Prop} {Q : Exit → Act → World → Prop}
    (hn : ∀ v' w' E', VR E' v v' → Tran E S.heap.get w S.next E' S'.heap.get w' S'.next → next (a.put dst v') w') : (⟨dst, .fieldAddr s x f, type, pos, after, guard⟩ : Oper).wp P a w next Q := by
  simp only [aOp, o2_eq, on3_eq, ob_some, Option.some.injEq, Prod.mk.injEq] at h
  obtain ⟨u, hu, z, hz, rfl, rfl⟩ := h
  exact wp_of_does (Does.ofV (fieldAddr_does hz (ho x (by simp [Op.operands]) u hu) hr pr)) hn

theorem sim_field {pol : FuncId → Bool} {rec : RunT} {dst : Option Tmp} {type : TypeId} {pos : String} {after : Array Edge} {guard : Option (Nat × Bool)} {s : TypeId} {x : Operand} {f : Nat} {a : Act} {v : AV} (h : (aOp pol P (Op.field s x f)).f rec T S = some (v, S'))
    (ho : ∀ y0 ∈ (Op.field s x f).operands.toList, ∀ u, ev T y0 = some u → VR E u (a.eval y0)) (hr : HR E S.heap.get w) (pr : PR E w) 
    {next : Act → World → Prop} {Q : Exit → Act → World → Prop}
    (hn : ∀ v' w' E', VR E' v v' → Tran E S.heap.get w S.next E' S'.heap.get w' S'.next → next (a.put dst v') w') : (⟨dst, .field s x f, type, pos, after, guard⟩ : Oper).wp P a w next Q := by
  simp only [aOp, o2_eq, on3_eq, ob_some, Option.some.injEq, Prod.mk.injEq] at h
  obtain ⟨u, hu, z, hz, rfl, rfl⟩ := h
  exact wp_of_does (Does.ofV (field_does hz (ho x (by simp [Op.operands]) u hu) hr pr)) hn

theorem sim_indexAddr {pol : FuncId → Bool} {rec : RunT} {dst : Option Tmp} {type : TypeId} {pos : String} {after : Array Edge} {guard : Option (Nat × Bool)} {t : TypeId} {x i : Operand} {a : Act} {v : AV} (h : (aOp pol P (Op.indexAddr t x i)).f rec T S = some (v, S'))
    (ho : ∀ y0 ∈ (Op.indexAddr t x i).operands.toList, ∀ u, ev T y0 = some u → VR E u (a.eval y0)) (hr : HR E S.heap.get w) (pr : PR E w) 
    {next : Act → World → Prop} {Q : Exit → Act → World → Prop}
    (hn : ∀ v' w' E', VR E' v v' → Tran E S.heap.get w S.next E' S'.heap.get w' S'.next → next (a.put dst v') w') : (⟨dst, .indexAddr t x i, type, pos, after, guard⟩ : Oper).wp P a w next Q := by
  simp only [aOp, o2_eq, on3_eq, ob_some, Option.some.injEq, Prod.mk.injEq] at h
  obtain ⟨u, hu, u', hu', z, hz, rfl, rfl⟩ := h
  exact wp_of_does (Does.ofV (indexAddr_does hz (ho x (by simp [Op.operands]) u hu) (ho i (by simp [Op.operands]) u' hu') hr pr)) hn

theorem sim_index {pol : FuncId → Bool} {rec : RunT} {dst : Option Tmp} {type : TypeId} {pos : String} {after : Array Edge} {guard : Option (Nat × Bool)} {t : TypeId} {x i : Operand} {a : Act} {v : AV} (h : (aOp pol P (Op.index t x i)).f rec T S = some (v, S'))
    (ho : ∀ y0 ∈ (Op.index t x i).operands.toList, ∀ u, ev T y0 = some u → VR E u (a.eval y0)) (hr : HR E S.heap.get w) (pr : PR E w) 
    {next : Act → World → Prop} {Q : Exit → Act → World → Prop}
    (hn : ∀ v' w' E', VR E' v v' → Tran E S.heap.get w S.next E' S'.heap.get w' S'.next → next (a.put dst v') w') : (⟨dst, .index t x i, type, pos, after, guard⟩ : Oper).wp P a w next Q := by
  simp only [aOp, o2_eq, on3_eq, ob_some, Option.some.injEq, Prod.mk.injEq] at h
  obtain ⟨u, hu, u', hu', z, hz, rfl, rfl⟩ := h
  exact wp_of_does (Does.ofV (index_does hz (ho x (by simp [Op.operands]) u hu) (ho i (by simp [Op.operands]) u' hu') hr pr)) hn

theorem sim_lookup {pol : FuncId → Bool} {rec : RunT} {dst : Option Tmp} {type : TypeId} {pos : String} {after : Array Edge} {guard : Option (Nat × Bool)} {t : TypeId} {x i : Operand} {ok : Bool} {a : Act} {v : AV} (h : (aOp pol P (Op.lookup t x i ok)).f rec T S = some (v, S'))
    (ho : ∀ y0 ∈ (Op.lookup t x i ok).operands.toList, ∀ u, ev T y0 = some u → VR E u (a.eval y0)) (hr : HR E S.heap.get w) (pr : PR E w) 
    {next : Act → World → Prop} {Q : Exit → Act → World → Prop}
    (hn : ∀ v' w' E', VR E' v v' → Tran E S.heap.get w S.next E' S'.heap.get w' S'.next → next (a.put dst v') w') : (⟨dst, .lookup t x i ok, type, pos, after, guard⟩ : Oper).wp P a w next Q := by
  simp only [aOp, o2_eq, on3_eq, ob_some, Option.some.injEq, Prod.mk.injEq] at h
  obtain ⟨u, hu, u', hu', z, hz, rfl, rfl⟩ := h
  exact wp_of_does (Does.ofV ((lookup_does hz (ho x (by simp [Op.operands]) u hu) (ho i (by simp [Op.operands]) u' hu') hr pr).toV hr pr)) hn

theorem sim_mapUpdate {pol : FuncId → Bool} {rec : RunT} {dst : Option Tmp} {type : TypeId} {pos : String} {after : Array Edge} {guard : Option (Nat × Bool)} {t : TypeId} {m k x : Operand} {a : Act} {v : AV} (h : (aOp pol P (Op.mapUpdate t m k x)).f rec T S = some (v, S'))
    (ho : ∀ y0 ∈ (Op.mapUpdate t m k x).operands.toList, ∀ u, ev T y0 = some u → VR E u (a.eval y0)) (hr : HR E S.heap.get w) (pr : PR E w) 
    {next : Act → World → Prop} {Q : Exit → Act → World → Prop}
    (hn : ∀ v' w' E', VR E' v v' → Tran E S.heap.get w S.next E' S'.heap.get w' S'.next → next (a.put dst v') w') : (⟨dst, .mapUpdate t m k x, type, pos, after, guard⟩ : Oper).wp P a w next Q := by
  simp only [aOp, o2_eq, on3_eq, ob_some, Option.some.injEq, Prod.mk.injEq] at h
  obtain ⟨u, hu, u', hu', u'', hu'', S1, hS1, rfl, rfl⟩ := h
  obtain ⟨w', hrun, ht⟩ := mapUpd_does (P := P) hS1 (ho m (by simp [Op.operands]) u hu) (ho k (by simp [Op.operands]) u' hu') (ho x (by simp [Op.operands]) u'' hu'') hr pr
  exact wp_of_does (Does.unit hrun ht) hn

theorem sim_mapEntry {pol : FuncId → Bool} {rec : RunT} {dst : Option Tmp} {type : TypeId} {pos : String} {after : Array Edge} {guard : Option (Nat × Bool)} {t : TypeId} {m k : Operand} {a : Act} {v : AV} (h : (aOp pol P (Op.mapEntry t m k)).f rec T S = some (v, S'))
    (ho : ∀ y0 ∈ (Op.mapEntry t m k).operands.toList, ∀ u, ev T y0 = some u → VR E u (a.eval y0)) (hr : HR E S.heap.get w) (pr : PR E w) 
    {next : Act → World → Prop} {Q : Exit → Act → World → Prop}
    (hn : ∀ v' w' E', VR E' v v' → Tran E S.heap.get w S.next E' S'.heap.get w' S'.next → next (a.put dst v') w') : (⟨dst, .mapEntry t m k, type, pos, after, guard⟩ : Oper).wp P a w next Q := by
  simp only [aOp, o2_eq, on3_eq, ob_some] at h
  obtain ⟨u, hu, u', hu', h⟩ := h
  exact wp_of_does (Does.ofV (mapEnt_does h (ho m (by simp [Op.operands]) u hu) (ho k (by simp [Op.operands]) u' hu') hr pr)) hn

theorem sim_entryStore {pol : FuncId → Bool} {rec : RunT} {dst : Option Tmp} {type : TypeId} {pos : String} {after : Array Edge} {guard : Option (Nat × Bool)} {t : TypeId} {m s x : Operand} {a : Act} {v : AV} (h : (aOp pol P (Op.entryStore t m s x)).f rec T S = some (v, S'))
    (ho : ∀ y0 ∈ (Op.entryStore t m s x).operands.toList, ∀ u, ev T y0 = some u → VR E u (a.eval y0)) (hr : HR E S.heap.get w) (pr : PR E w) 
    {next : Act → World → Prop} {Q : Exit → Act → World → Prop}
    (hn : ∀ v' w' E', VR E' v v' → Tran E S.heap.get w S.next E' S'.heap.get w' S'.next → next (a.put dst v') w') : (⟨dst, .entryStore t m s x, type, pos, after, guard⟩ : Oper).wp P a w next Q := by
  simp only [aOp, o2_eq, on3_eq, ob_some, Option.some.injEq, Prod.mk.injEq] at h
  obtain ⟨u, hu, u', hu', u'', hu'', S1, hS1, rfl, rfl⟩ := h
  obtain ⟨w', hrun, ht⟩ := entSt_does (P := P) (t := t) hS1 (ho m (by simp [Op.operands]) u hu) (ho s (by simp [Op.operands]) u' hu') (ho x (by simp [Op.operands]) u'' hu'') hr pr
  exact wp_of_does (Does.unit hrun ht) hn

theorem sim_insert {pol : FuncId → Bool} {rec : RunT} {dst : Option Tmp} {type : TypeId} {pos : String} {after : Array Edge} {guard : Option (Nat × Bool)} {t : TypeId} {m k x : Operand} {a : Act} {v : AV} (h : (aOp pol P (Op.insert t m k x)).f rec T S = some (v, S'))
    (ho : ∀ y0 ∈ (Op.insert t m k x).operands.toList, ∀ u, ev T y0 = some u → VR E u (a.eval y0)) (hr : HR E S.heap.get w) (pr : PR E w) 
    {next : Act → World → Prop} {Q : Exit → Act → World → Prop}
    (hn : ∀ v' w' E', VR E' v v' → Tran E S.heap.get w S.next E' S'.heap.get w' S'.next → next (a.put dst v') w') : (⟨dst, .insert t m k x, type, pos, after, guard⟩ : Oper).wp P a w next Q := by
  simp only [aOp, o2_eq, on3_eq, ob_some, Option.some.injEq, Prod.mk.injEq] at h
  obtain ⟨u, hu, u', hu', u'', hu'', S1, hS1, rfl, rfl⟩ := h
  obtain ⟨w', hrun, ht⟩ := mapUpd_does (P := P) hS1 (ho m (by simp [Op.operands]) u hu) (ho k (by simp [Op.operands]) u' hu') (ho x (by simp [Op.operands]) u'' hu'') hr pr
  exact wp_of_does (Does.unit hrun ht) hn

theorem sim_range {pol : FuncId → Bool} {rec : RunT} {dst : Option Tmp} {type : TypeId} {pos : String} {after : Array Edge} {guard : Option (Nat × Bool)} {t : TypeId} {x : Operand} {a : Act} {v : AV} (h : (aOp pol P (Op.range t x)).f rec T S = some (v, S'))
    (ho : ∀ y0 ∈ (Op.range t x).operands.toList, ∀ u, ev T y0 = some u → VR E u (a.eval y0)) (hr : HR E S.heap.get w) (pr : PR E w) (fresh : ∀ n, S.next ≤ n → n < S'.next → ¬ E.dom n)
    {next : Act → World → Prop} {Q : Exit → Act → World → Prop}
    (hn : ∀ v' w' E', VR E' v v' → Tran E S.heap.get w S.next E' S'.heap.get w' S'.next → next (a.put dst v') w') : (⟨dst, .range t x, type, pos, after, guard⟩ : Oper).wp P a w next Q := by
  simp only [aOp, o2_eq, on3_eq, ob_some] at h
  obtain ⟨u, hu, h⟩ := h
  have hS : ¬ E.dom S.next := fresh _ (Nat.le_refl _) (by
    unfold rangeA at h
    simp only [o2_eq, on3_eq, ob_some] at h
    obtain ⟨e, _, h⟩ := h
    split at h
    · cases h; exact Nat.lt_succ_self _
    · simp only [o2_eq, on3_eq, ob_some, Option.some.injEq, Prod.mk.injEq] at h
      obtain ⟨_, _, _, rfl⟩ := h; exact Nat.lt_succ_self _
    · cases h)
  exact wp_of_does (Does.ofV (range_does h (ho x (by simp [Op.operands]) u hu) hr pr hS)) hn

theorem sim_entry {pol : FuncId → Bool} {rec : RunT} {dst : Option Tmp} {type : TypeId} {pos : String} {after : Array Edge} {guard : Option (Nat × Bool)} {x : Operand} {a : Act} {v : AV} (h : (aOp pol P (Op.entry x)).f rec T S = some (v, S'))
    (ho : ∀ y0 ∈ (Op.entry x).operands.toList, ∀ u, ev T y0 = some u → VR E u (a.eval y0)) (hr : HR E S.heap.get w) (pr : PR E w) 
    {next : Act → World → Prop} {Q : Exit → Act → World → Prop}
    (hn : ∀ v' w' E', VR E' v v' → Tran E S.heap.get w S.next E' S'.heap.get w' S'.next → next (a.put dst v') w') : (⟨dst, .entry x, type, pos, after, guard⟩ : Oper).wp P a w next Q := by
  simp only [aOp, o2_eq, on3_eq, ob_some, Option.some.injEq, Prod.mk.injEq] at h
  obtain ⟨u, hu, z, hz, rfl, rfl⟩ := h
  exact wp_of_does (Does.ofV (entry_does hz (ho x (by simp [Op.operands]) u hu) hr pr)) hn

theorem sim_extract {pol : FuncId → Bool} {rec : RunT} {dst : Option Tmp} {type : TypeId} {pos : String} {after : Array Edge} {guard : Option (Nat × Bool)} {t : Operand} {i : Nat} {a : Act} {v : AV} (h : (aOp pol P (Op.extract t i)).f rec T S = some (v, S'))
    (ho : ∀ y0 ∈ (Op.extract t i).operands.toList, ∀ u, ev T y0 = some u → VR E u (a.eval y0)) (hr : HR E S.heap.get w) (pr : PR E w) 
    {next : Act → World → Prop} {Q : Exit → Act → World → Prop}
    (hn : ∀ v' w' E', VR E' v v' → Tran E S.heap.get w S.next E' S'.heap.get w' S'.next → next (a.put dst v') w') : (⟨dst, .extract t i, type, pos, after, guard⟩ : Oper).wp P a w next Q := by
  simp only [aOp, o2_eq, on3_eq, ob_some] at h
  obtain ⟨u, hu, h⟩ := h
  have hx := ho t (by simp [Op.operands]) u hu
  split at h
  · rename_i vs
    simp only [o2_eq, on3_eq, ob_some, Option.some.injEq, Prod.mk.injEq] at h
    obtain ⟨z, hz, rfl, rfl⟩ := h
    simp only [VR] at hx
    obtain ⟨arr, he, hv, _⟩ := hx
    obtain ⟨y, hy, hzy⟩ := hv.get hz
    have hy' : arr[i]? = some y := by simpa using hy
    exact wp_of_does (Does.ofV (DoesV.same hr pr (v' := y) (by simp [Instr.extract, he, hy']) hzy)) hn
  · cases h

theorem sim_call {pol : FuncId → Bool} {rec : RunT} (hx : MxOk P) (hP : NoNum P) (hrec : RecOk P rec) {dst : Option Tmp} {type : TypeId} {pos : String} {after : Array Edge} {guard : Option (Nat × Bool)} {c : Call} {a : Act} {v : AV} (h : (aOp pol P (Op.call c)).f rec T S = some (v, S'))
    (ho : ∀ y0 ∈ (Op.call c).operands.toList, ∀ u, ev T y0 = some u → VR E u (a.eval y0)) (hr : HR E S.heap.get w) (pr : PR E w) (fresh : ∀ n, S.next ≤ n → n < S'.next → ¬ E.dom n)
    {next : Act → World → Prop} {Q : Exit → Act → World → Prop}
    (hn : ∀ v' w' E', VR E' v v' → Tran E S.heap.get w S.next E' S'.heap.get w' S'.next → next (a.put dst v') w') : (⟨dst, .call c, type, pos, after, guard⟩ : Oper).wp P a w next Q := by
  have hargs : ∀ args, evs T c.args.toList = some args → VRP E args (c.args.map a.eval).toList ∧ args.length = (c.args.map a.eval).size := by
    intro args hargs
    have := evs_rel (ρ := a.eval) hargs (fun x hx => ho x (by simp only [Op.operands, Call.operands]; simp; exact .inr (by simpa using hx)))
    exact ⟨by simpa using this.1, by simpa using this.2⟩
  simp only [aOp] at h
  split at h
  · rename_i b hcal
    simp only [o2_eq, on3_eq, ob_some] at h
    obtain ⟨args, hevs, h⟩ := h
    obtain ⟨hv, hl⟩ := hargs args hevs
    have hex : ∀ s : Sem Value, builtin b c.argTypes type (c.args.map fun | .const _ => true | _ => false) (c.args.map a.eval) = (do pure (.value (← s))) → DoesV P s E S w v S' →
        Does P (execOp a.eval ⟨dst, .call c, type, pos, after, guard⟩) E S w v S' := by
      intro s hs hd
      have : execOp a.eval ⟨dst, .call c, type, pos, after, guard⟩ = (do pure (.value (← s))) := by
        simp only [execOp, resolve, hcal, pure_bind, invoke]
        exact hs
      rw [this]
      exact Does.ofV hd
    generalize hvals : c.args.map a.eval = vals at hv hl hex
    unfold builtinA at h
    split at h
    · rename_i x t ts hts
      simp only [o2_eq, on3_eq, ob_some, Option.some.injEq, Prod.mk.injEq] at h
      obtain ⟨z, hz, rfl, rfl⟩ := h
      have hva : ∃ u, vals = #[u] ∧ VR E x u := by
        match hvl : vals.toList, hv with
        | [], hv => simp only [VRP] at hv
        | u :: us, hv =>
          rw [VRP.cons_iff] at hv
          have : us = [] := by
            have h2 : vals.toList.length = 1 := by simpa using hl.symm
            rw [hvl] at h2; simpa using h2
          subst this
          exact ⟨u, by apply Array.toList_inj.1; simpa using hvl, hv.1⟩
      obtain ⟨u, rfl, hxu⟩ := hva
      have ht0 : c.argTypes[0]? = some t := by
        rw [← Array.getElem?_toList, hts]; rfl
      exact wp_of_does (hex _ rfl ((len_does type ht0 hz hxu hr pr).toV hr pr)) hn
    · rename_i x y t u' hts
      simp only [o2_eq, on3_eq, ob_some] at h
      obtain ⟨ue, hue, h⟩ := h
      split at h
      · cases h
      · rename_i hni
        have hva : ∃ p q, vals = #[p, q] ∧ VR E x p ∧ VR E y q := by
          match hvl : vals.toList, hv with
          | [], hv => simp only [VRP] at hv
          | [_], hv => simp only [VRP] at hv; exact absurd hv.2 (by simp)
          | p :: q :: us, hv =>
            rw [VRP.cons_iff, VRP.cons_iff] at hv
            have : us = [] := by
              have h2 : vals.toList.length = 2 := by simpa using hl.symm
              rw [hvl] at h2; simpa using h2
            subst this
            exact ⟨p, q, by apply Array.toList_inj.1; simpa using hvl, hv.1, hv.2.1⟩
        obtain ⟨p, q, rfl, hxp, hyq⟩ := hva
        have hat : c.argTypes = #[t, u'] := by apply Array.toList_inj.1; simpa using hts
        rw [hat] at hex
        exact wp_of_does (hex _ rfl (append_does type hue (fun k hk => hni k hk) h hxp hyq hr pr fresh)) hn
    · rename_i x y t u' hts
      have hva : ∃ p q, vals = #[p, q] ∧ VR E x p ∧ VR E y q := by
        match hvl : vals.toList, hv with
        | [], hv => simp only [VRP] at hv
        | [_], hv => simp only [VRP] at hv; exact absurd hv.2 (by simp)
        | p :: q :: us, hv =>
          rw [VRP.cons_iff, VRP.cons_iff] at hv
          have : us = [] := by
            have h2 : vals.toList.length = 2 := by simpa using hl.symm
            rw [hvl] at h2; simpa using h2
          subst this
          exact ⟨p, q, by apply Array.toList_inj.1; simpa using hvl, hv.1, hv.2.1⟩
      obtain ⟨p, q, rfl, hxp, hyq⟩ := hva
      have hat : c.argTypes = #[t, u'] := by apply Array.toList_inj.1; simpa using hts
      rw [hat] at hex
      exact wp_of_does (hex _ rfl (copy_does type h hxp hyq hr pr)) hn
    · rename_i x
      simp only [o2_eq, on3_eq, ob_some, Option.some.injEq, Prod.mk.injEq] at h
      obtain ⟨z, hz, rfl, rfl⟩ := h
      have hva : ∃ u, vals = #[u] ∧ VR E x u := by
        match hvl : vals.toList, hv with
        | [], hv => simp only [VRP] at hv
        | u :: us, hv =>
          rw [VRP.cons_iff] at hv
          have : us = [] := by
            have h2 : vals.toList.length = 1 := by simpa using hl.symm
            rw [hvl] at h2; simpa using h2
          subst this
          exact ⟨u, by apply Array.toList_inj.1; simpa using hvl, hv.1⟩
      obtain ⟨u, rfl, hxu⟩ := hva
      exact wp_of_does (hex _ rfl (data_does c.argTypes type hz hxu hr pr)) hn
    · rename_i x y t u' hts
      have hva : ∃ p q, vals = #[p, q] ∧ VR E x p ∧ VR E y q := by
        match hvl : vals.toList, hv with
        | [], hv => simp only [VRP] at hv
        | [_], hv => simp only [VRP] at hv; exact absurd hv.2 (by simp)
        | p :: q :: us, hv =>
          rw [VRP.cons_iff, VRP.cons_iff] at hv
          have : us = [] := by
            have h2 : vals.toList.length = 2 := by simpa using hl.symm
            rw [hvl] at h2; simpa using h2
          subst this
          exact ⟨p, q, by apply Array.toList_inj.1; simpa using hvl, hv.1, hv.2.1⟩
      obtain ⟨p, q, rfl, hxp, hyq⟩ := hva
      have hat : c.argTypes = #[t, u'] := by apply Array.toList_inj.1; simpa using hts
      rw [hat] at hex
      exact wp_of_does (hex _ rfl (ustr_does h hxp hyq hr pr)) hn
    · rename_i l ts
      simp only [o2_eq, on3_eq, ob_some, Option.some.injEq, Prod.mk.injEq] at h
      obtain ⟨z, hz, rfl, rfl⟩ := h
      unfold maxA at hz
      split at hz
      · rename_i k n r
        match hvl : vals.toList, hv with
        | [], hv => simp only [VRP] at hv
        | u :: us, hv =>
          rw [VRP.cons_iff] at hv
          simp only [VR] at hv
          obtain ⟨rfl, hv⟩ := hv
          have hl2 : r.length = us.length := by
            have h2 : vals.toList.length = r.length + 1 := by simpa using hl.symm
            rw [hvl] at h2; simpa using h2.symm
          obtain ⟨y, hy, hzy⟩ := max_rel (P := P) (w := w) hz hv hl2
          exact wp_of_does (hex (Builtin.max_ c.argTypes type vals) rfl (DoesV.same hr pr (by simp only [Builtin.max_, hvl]; exact hy) hzy)) hn
      · cases hz
    · rename_i l ts
      simp only [o2_eq, on3_eq, ob_some, Option.some.injEq, Prod.mk.injEq] at h
      obtain ⟨z, hz, rfl, rfl⟩ := h
      unfold minA at hz
      split at hz
      · rename_i k n r
        match hvl : vals.toList, hv with
        | [], hv => simp only [VRP] at hv
        | u :: us, hv =>
          rw [VRP.cons_iff] at hv
          simp only [VR] at hv
          obtain ⟨rfl, hv⟩ := hv
          have hl2 : r.length = us.length := by
            have h2 : vals.toList.length = r.length + 1 := by simpa using hl.symm
            rw [hvl] at h2; simpa using h2.symm
          obtain ⟨y, hy, hzy⟩ := min_rel (P := P) (w := w) hz hv hl2
          exact wp_of_does (hex (Builtin.min_ c.argTypes type vals) rfl (DoesV.same hr pr (by simp only [Builtin.min_, hvl]; exact hy) hzy)) hn
      · cases hz
    · cases h
  · rename_i f hcal
    simp only [o2_eq, on3_eq, ob_some] at h
    obtain ⟨args, hevs, fv, hfv, h⟩ := h
    obtain ⟨hv, hl⟩ := hargs args hevs
    have hfr := ho f (by simp [Op.operands, Call.operands, hcal]) fv hfv
    split at h
    · rename_i g first cap
      simp only [VR] at hfr
      obtain ⟨a', c', he, ⟨f1, f2⟩, f3, f4⟩ := hfr
      have hav : VRP E (first ++ args ++ cap) (a' ++ c.args.map a.eval ++ c').toList := by
        rw [Array.toList_append, Array.toList_append]
        exact VRP.append (VRP.append f1 (by simpa using f2) hv) (by simp at hl ⊢; omega) f3
      have hal : (first ++ args ++ cap).length = (a' ++ c.args.map a.eval ++ c').size := by simp at hl ⊢; omega
      simp only [o2_eq, on3_eq, ob_some] at h
      obtain ⟨⟨args', S1⟩, hz, h⟩ := h
      dsimp only at h
      obtain ⟨E1, hav1, hal1, hn1, t1⟩ := fzArgs_ok hz hav hr pr
      cases hex : Mx.ex g args' with
      | some q =>
        unfold callA at h
        rw [hex] at h
        cases h
        obtain ⟨u, hqu, hrun⟩ := hx.externs g args' _ hex E1 _ hav1 (hal1.trans hal)
        refine wp_of_does ⟨.value u, u, w, E1, ?_, .inl rfl, hqu, ?_⟩ hn
        · simp only [execOp, resolve, hcal, he, Deferred.ofValue, pure_bind, invoke]
          rw [hrun]
        · rw [hn1]; exact t1
      | none =>
      have h : callB pol P rec g args' S1 = some (v, S') := by unfold callA at h; rw [hex] at h; exact h
      cases hsw : Mx.sw g with
      | true =>
        have h' : swapA P args' S1 = some (v, S') := by unfold callB at h; rw [hsw, cond_true] at h; exact h
        obtain ⟨gS, hx1⟩ := hx.swaps g hsw
        obtain ⟨rfl, w', hrun, ht⟩ := swap_does h' hav1 (hal1.trans hal) t1.hr t1.pr gS
        refine wp_of_does ⟨.value (.tuple #[]), .tuple #[], w', E1, ?_, .inl rfl, VR.unit E1, ?_⟩ hn
        · simp only [execOp, resolve, hcal, he, Deferred.ofValue, pure_bind, invoke]
          rw [hx1, hrun]
          rfl
        · rw [hn1] at ht; exact t1.trans ht
      | false =>
      have hcall0 := callB_ok hx hrec hsw h hav1 (hal1.trans hal) t1.hr t1.pr (fun n ha hb hd => by
        rcases t1.dom n hd with d | ⟨d1, d2⟩
        · exact fresh n (by omega) hb d
        · omega)
      have hcall : CallOk P E S w g (a' ++ c.args.map a.eval ++ c') v S' := by
        refine Calls.mono hcall0 ?_
        rintro e w' ⟨v', E', he', hv', ht⟩
        rw [hn1] at ht
        exact ⟨v', E', he', hv', t1.trans ht⟩
      have hfn : ∃ fn, P.funcs[g]? = some fn ∧ fn.body.isSome = true := by
        have : ∀ args S r, callN P rec g args S = some r → ∃ fn, P.funcs[g]? = some fn ∧ fn.body.isSome = true := by
          intro args S r h
          simp only [callN, o2_eq, on3_eq, ob_some] at h
          obtain ⟨fn, hf, c, hb, _⟩ := h
          exact ⟨fn, hf, by rw [hb]; rfl⟩
        unfold callB at h
        rw [hsw, cond_false] at h
        cases ht : tinyA g args' <;> rw [ht] at h
        rotate_left
        · obtain ⟨_, _, _, _, _, _, ht, _⟩ := tinyA_some ht
          exact (hx.tiny g _ ht).1
        rw [cond_false] at h
        split at h
        · rename_i q hq
          obtain ⟨_, _, _, _, _, _, _, _, _, _, _, hso, _⟩ := sortQ_some hq
          exact (hx.sorts g _ _ hso).1
        cases hp : pol g <;> rw [hp] at h
        · exact this _ _ _ h
        · have h' : callP P rec g args' S1 = some (v, S') := h
          simp only [callP, o2_eq, on3_eq, ob_some] at h'
          obtain ⟨as, _, q, hq, _⟩ := h'
          unfold pureF at hq
          split at hq
          · rename_i hxq
            exact (hx.known _ _ _ hxq).1
          · simp only [o2_eq, on3_eq, ob_some] at hq
            obtain ⟨r, hr', _⟩ := hq
            simp only [callM, o2_eq, on3_eq, ob_some] at hr'
            obtain ⟨fn, hf, c, hb, _⟩ := hr'
            exact ⟨fn, hf, by rw [hb]; rfl⟩
      obtain ⟨fn, hf, hbody⟩ := hfn
      have hrun : (execOp a.eval ⟨dst, .call c, type, pos, after, guard⟩).run P w = .ok (.enter g (a' ++ c.args.map a.eval ++ c')) w := by
        have hb : fn.body.isNone = false := by cases hb : fn.body <;> simp_all
        simp only [execOp, resolve, hcal, he, Deferred.ofValue, pure_bind, invoke, callFunc, Sem.run_bind, run_program, Result.andThen_ok, hf, hP g fn hf hbody, hb, Bool.false_eq_true, if_false, Sem.run_pure]
      unfold Oper.wp
      rw [hrun]
      refine Calls.mono hcall ?_
      rintro e w' ⟨v', E', rfl, hv', ht⟩
      exact hn v' w' E' hv' ht
    · cases h
  · cases h

theorem opSim {pol : FuncId → Bool} {rec : RunT} (hx : MxOk P) (hP : NoNum P) (hrec : RecOk P rec) {o : Oper} {a : Act} {v : AV} (h : (aOp pol P o.op).f rec T S = some (v, S'))
    (ho : ∀ x ∈ o.op.operands.toList, ∀ u, ev T x = some u → VR E u (a.eval x)) (hr : HR E S.heap.get w) (pr : PR E w) (fresh : ∀ n, S.next ≤ n → n < S'.next → ¬ E.dom n)
    {next : Act → World → Prop} {Q : Exit → Act → World → Prop}
    (hn : ∀ v' w' E', VR E' v v' → Tran E S.heap.get w S.next E' S'.heap.get w' S'.next → next (a.put o.dst v') w') : o.wp P a w next Q := by
  obtain ⟨dst, op, type, pos, after, guard⟩ := o
  simp only at h ho hn ⊢
  cases op
  case move x => exact sim_move h ho hr pr hn
  case assign x => exact sim_assign h ho hr pr hn
  case pick c x y => exact sim_pick h ho hr pr hn
  case alloc t => exact sim_alloc h ho hr pr fresh hn
  case box t x => exact sim_box h ho hr pr fresh hn
  case build t ps => exact sim_build h ho hr pr hn
  case buildSlice t n ps => exact sim_buildSlice h ho hr pr fresh hn
  case load t p => exact sim_load h ho hr pr hn
  case store t p x => exact sim_store h ho hr pr hn
  case nilCheck x => exact sim_nilCheck h ho hr pr hn
  case binOp op t x y yt => exact sim_binOp h ho hr pr hn
  case unOp op t x => exact sim_unOp h ho hr pr hn
  case convert s d x => exact sim_convert h ho hr pr hn
  case makeInterface t x => exact sim_makeInterface h ho hr pr hn
  case makeFunc fn f c => exact sim_makeFunc h ho hr pr hn
  case makeMap t r => exact sim_makeMap h ho hr pr fresh hn
  case makeSlice t l c => exact sim_makeSlice h ho hr pr fresh hn
  case slice t x lo hi mx => exact sim_slice h ho hr pr hn
  case fieldAddr s x f => exact sim_fieldAddr h ho hr pr hn
  case field s x f => exact sim_field h ho hr pr hn
  case indexAddr t x i => exact sim_indexAddr h ho hr pr hn
  case index t x i => exact sim_index h ho hr pr hn
  case lookup t x i ok => exact sim_lookup h ho hr pr hn
  case mapUpdate t m k x => exact sim_mapUpdate h ho hr pr hn
  case mapEntry t m k => exact sim_mapEntry h ho hr pr hn
  case entryStore t m s x => exact sim_entryStore h ho hr pr hn
  case extract t i => exact sim_extract h ho hr pr hn
  case insert t m k x => exact sim_insert h ho hr pr hn
  case range t x => exact sim_range h ho hr pr fresh hn
  case entry x => exact sim_entry h ho hr pr hn
  case call c => exact sim_call hx hP hrec h ho hr pr fresh hn
  all_goals (simp only [aOp, reduceCtorEq] at h)

/-! reading operations leave the world alone -/
theorem wp_of_reads {o : Oper} {a : Act} {v : AV} {s : Sem Value} {next : Act → World → Prop} {Q : Exit → Act → World → Prop} (he : execOp a.eval o = (do pure (.value (← s)))) (h : DoesR P s E w v)
    (hn : ∀ v', VR E v v' → next (a.put o.dst v') w) : o.wp P a w next Q := by
  obtain ⟨v', hrun, hv⟩ := h
  unfold Oper.wp
  rw [he]
  simp only [Sem.run_bind, hrun, Result.andThen_ok, Sem.run_pure]
  exact hn v' hv

theorem readSim {pol : FuncId → Bool} {rec : RunT} {o : Oper} (hc : cls pol o.op = .read) {a : Act} {v : AV} (h : (aOp pol P o.op).f rec T S = some (v, S'))
    (ho : ∀ x ∈ o.op.operands.toList, ∀ u, ev T x = some u → VR E u (a.eval x)) (hr : HR E S.heap.get w) (pr : PR E w)
    {next : Act → World → Prop} {Q : Exit → Act → World → Prop} (hn : ∀ v', VR E v v' → next (a.put o.dst v') w) : o.wp P a w next Q := by
  obtain ⟨dst, op, type, pos, after, guard⟩ := o
  simp only at h ho hn hc ⊢
  cases op <;> simp only [cls, reduceCtorEq] at hc
  case slice t x lo hi mx => cases hb : allN lo hi mx <;> rw [hb] at hc <;> cases hc
  case load t p =>
    simp only [aOp] at h
    split at h
    · rename_i e he
      simp only [o2_eq, on3_eq, ob_some, Option.some.injEq, Prod.mk.injEq] at h
      obtain ⟨q, hq, u, hu, rfl, rfl⟩ := h
      exact wp_of_reads rfl (load_does he hu (ho p (by simp [Op.operands]) q hq) hr pr) hn
    · cases h
  case convert s d x =>
    simp only [aOp, o2_eq, on3_eq, ob_some, Option.some.injEq, Prod.mk.injEq] at h
    obtain ⟨u, hu, z, hz, rfl, rfl⟩ := h
    exact wp_of_reads rfl (conv_does hz (ho x (by simp [Op.operands]) u hu) hr pr) hn
  case lookup t x i ok =>
    simp only [aOp, o2_eq, on3_eq, ob_some, Option.some.injEq, Prod.mk.injEq] at h
    obtain ⟨u, hu, u', hu', z, hz, rfl, rfl⟩ := h
    exact wp_of_reads rfl (lookup_does hz (ho x (by simp [Op.operands]) u hu) (ho i (by simp [Op.operands]) u' hu') hr pr) hn
  case call c =>
    split at hc
    · rename_i hcal
      simp only [aOp, hcal] at h
      simp only [o2_eq, on3_eq, ob_some] at h
      obtain ⟨args, hevs, h⟩ := h
      have := evs_rel (ρ := a.eval) hevs (fun x hx => ho x (by simp only [Op.operands, Call.operands]; simp; exact .inr (by simpa using hx)))
      obtain ⟨hv, hl⟩ := this
      unfold builtinA at h
      split at h
      · rename_i x t ts _ hts
        simp only [o2_eq, on3_eq, ob_some, Option.some.injEq, Prod.mk.injEq] at h
        obtain ⟨z, hz, rfl, rfl⟩ := h
        have hva : ∃ u, c.args.map a.eval = #[u] ∧ VR E x u := by
          match hvl : c.args.toList.map a.eval, hv with
          | [], hv => simp only [VRP] at hv
          | u :: us, hv =>
            rw [VRP.cons_iff] at hv
            have : us = [] := by
              have h2 : (c.args.toList.map a.eval).length = 1 := by simpa using hl.symm
              rw [hvl] at h2; simpa using h2
            subst this
            exact ⟨u, by apply Array.toList_inj.1; simpa using hvl, hv.1⟩
        obtain ⟨u, hvals, hxu⟩ := hva
        have ht0 : c.argTypes[0]? = some t := by
          rw [← Array.getElem?_toList, hts]; rfl
        refine wp_of_reads (s := Builtin.len_ c.argTypes type (c.args.map a.eval)) ?_ (by rw [hvals]; exact len_does type ht0 hz hxu hr pr) hn
        simp only [execOp, resolve, hcal, pure_bind, invoke]
        rfl
      all_goals first | (cases h; done) | contradiction
    · cases hc
    · cases hc
    · cases hc
    · rename_i f _
      cases hp : polO pol f <;> simp [hp] at hc
    · cases hc

end
end Go.Eng
namespace Go.Eng
set_option linter.unusedSectionVars false
variable [Gl] [Mx]
section
variable {P : Program} {E : Gh} {S S' : St} {w : World} {T T' : Tm}

theorem TR.put {nt : Nat} {a : Act} {dst : Option Tmp} {v : AV} {v' : Value} (h : putA nt T dst v = some T') (ht : TR E nt T.get a) (hv : VR E v v') : TR E nt T'.get (a.put dst v') := by
  unfold putA at h
  split at h
  · cases h; exact ht
  · rename_i d
    simp only [o2_eq, on3_eq, ob_some, chk_some, nblt_iff, Option.some.injEq] at h
    obtain ⟨_, hd, rfl⟩ := h
    refine ⟨by simp [Act.put, ht.1], fun t x hx => ?_⟩
    rw [Tr.get_put] at hx
    by_cases e : t = d
    · subst e
      rw [if_pos rfl] at hx
      cases hx
      exact ⟨v', by simp [Act.put, ht.1, hd], hv⟩
    · rw [if_neg e] at hx
      obtain ⟨u, hu, hxu⟩ := ht.2 t x hx
      exact ⟨u, by simp [Act.put, Array.getElem?_setIfInBounds_ne (Ne.symm e), hu], hxu⟩

theorem put_defers (a : Act) (dst : Option Tmp) (v : Value) : (a.put dst v).defers = a.defers := by cases dst <;> rfl

theorem VR.undef (E : Gh) : VR E (.tup []) undef := by simp only [VR, Go.undef]; exact ⟨#[], rfl, VRP.nil, rfl⟩

theorem want_rel {nt : Nat} {a : Act} {ops : Array Oper} {o : Oper} {b : Bool} (h : wantA ops.toList T o = some b) (ht : TR E nt T.get a) : Region.wanted o (yielded ops a.tmps) = b := by
  unfold wantA at h
  unfold Region.wanted
  split at h
  · rename_i hg; rw [hg]; cases h; rfl
  · rename_i j wnt hg
    rw [hg]
    simp only
    unfold yielded
    have e : (ops[j]?).bind (·.dst) = (ops.toList[j]?).ob (·.dst) := by rw [ob_eq]; simp
    split at h
    · rename_i hd
      rw [e, hd]; cases h; rfl
    · rename_i d hd
      rw [e, hd]
      rw [ob_some] at h
      obtain ⟨x, hx, h⟩ := h
      obtain ⟨u, hu, hxu⟩ := ht.2 d x hx
      simp only [Option.bind_some, hu]
      cases x <;> simp only [VR] at hxu
      case bool c => subst hxu; cases h; cases c <;> cases wnt <;> rfl
      all_goals
        cases h
        first
          | (subst hxu; rfl)
          | (rcases hxu with ⟨_, _, _, _, rfl, _⟩ | ⟨_, _, rfl⟩ <;> rfl)
          | (obtain ⟨_, rfl⟩ := hxu; rfl)
          | (obtain ⟨_, rfl, _⟩ := hxu; rfl)
          | (obtain ⟨_, _, rfl, _⟩ := hxu; rfl)
          | (obtain ⟨_, _, _, rfl, _⟩ := hxu; rfl)

theorem ev_rel {nt : Nat} {a : Act} (ht : TR E nt T.get a) (pr : PR E w) {x : Operand} {v : AV} (h : ev T x = some v) : VR E v (a.eval x) := by
  unfold ev at h
  split at h
  · obtain ⟨u, hu, hxu⟩ := ht.2 _ _ h
    simpa [Act.eval, Array.getD_eq_getD_getElem?, hu] using hxu
  · exact cv_rel E h
  · exact VR.mono (Ext.ofIce E) _ _ (pr.gl _ _ h)
  · cases h
    simp only [VR, Act.eval]
    exact ⟨#[], #[], rfl, ⟨VRP.nil, rfl⟩, VRP.nil, rfl⟩

/-- names only grow -/
theorem ops_le {pol : FuncId → Bool} {rec : RunT} {nt : Nat} {all : List Oper} : ∀ {l : List Oper} {T : Tm} {S : St} {T' : Tm} {S' : St}, (opsA pol P all l).f rec nt T S = some (T', S') → S.next ≤ S'.next
  | [], T, S, T', S', h => by simp only [opsA, Option.some.injEq, Prod.mk.injEq] at h; rw [← h.2]; exact Nat.le_refl _
  | o :: l, T, S, T', S', h => by
    unfold opsA at h
    split at h
    · simp only [o2_eq, on3_eq, ob_some, chk_some, nble_iff] at h
      obtain ⟨r, _, _, hle, _, _, h⟩ := h
      exact Nat.le_trans hle (ops_le h)
    · rw [ob_some] at h
      obtain ⟨b, _, h⟩ := h
      cases b
      · rw [bc_false] at h
        simp only [o2_eq, on3_eq, ob_some] at h
        obtain ⟨_, _, h⟩ := h
        exact ops_le h
      · rw [bc_true] at h
        simp only [o2_eq, on3_eq, ob_some, chk_some, nble_iff] at h
        obtain ⟨r, _, _, hle, _, _, h⟩ := h
        exact Nat.le_trans hle (ops_le h)

/-- one operation that is wanted -/
def StepOk (P : Program) (pol : FuncId → Bool) (rec : RunT) : Prop := ∀ {E : Gh} {S S' : St} {w : World} {T : Tm} {o : Oper} {a : Act} {v : AV}, (aOp pol P o.op).f rec T S = some (v, S') →
    (∀ x ∈ o.op.operands.toList, ∀ u, ev T x = some u → VR E u (a.eval x)) → HR E S.heap.get w → PR E w → (∀ n, S.next ≤ n → n < S'.next → ¬ E.dom n) →
    ∀ {next : Act → World → Prop} {Q : Exit → Act → World → Prop},
    (∀ v' w' E', VR E' v v' → Tran E S.heap.get w S.next E' S'.heap.get w' S'.next → next (a.put o.dst v') w') → o.wp P a w next Q

theorem ops_ok {pol : FuncId → Bool} {rec : RunT} (hs : StepOk P pol rec) {nt : Nat} {ops : Array Oper} {Q : Exit → Act → World → Prop} {T' : Tm} {S' : St} :
    ∀ {l : List Oper} {k : Nat} {E : Gh} {S : St} {w : World} {T : Tm} {a : Act}, (opsA pol P ops.toList l).f rec nt T S = some (T', S') → l = ops.toList.drop k → TR E nt T.get a → HR E S.heap.get w → PR E w →
      (∀ n, S.next ≤ n → n < S'.next → ¬ E.dom n) → a.defers = [] →
      (∀ E' a' w', TR E' nt T'.get a' → a'.defers = [] → Tran E S.heap.get w S.next E' S'.heap.get w' S'.next → Q .normal a' w') → wpOps P ops Q (List.range' k (ops.size - k)) a w
  | [], k, E, S, w, T, a, h, hl, ht, hr, pr, _, hd, hq => by
    simp only [opsA, Option.some.injEq, Prod.mk.injEq] at h
    obtain ⟨rfl, rfl⟩ := h
    have : ops.size ≤ k := by
      have := congrArg List.length hl
      simp at this; omega
    rw [show ops.size - k = 0 from by omega]
    exact hq E a w ht hd (Tran.refl _ hr pr)
  | o :: l, k, E, S, w, T, a, h, hl, ht, hr, pr, fresh, hd, hq => by
    have hlen : k < ops.size := by
      have := congrArg List.length hl
      simp at this; omega
    have ho : ops[k]? = some o := by
      have := congrArg (·[0]?) hl
      simp at this
      rw [← this]
    have hl' : l = ops.toList.drop (k + 1) := by
      rw [← List.drop_drop, ← hl]; rfl
    rw [show ops.size - k = (ops.size - (k + 1)) + 1 from by omega, List.range'_succ]
    simp only [wpOps, ho]
    have yes : ∀ r, (aOp pol P o.op).f rec T S = some r → S.next ≤ r.2.next → ∀ T1, putA nt T o.dst r.1 = some T1 → (opsA pol P ops.toList l).f rec nt T1 r.2 = some (T', S') → o.wp P a w (wpOps P ops Q (List.range' (k + 1) (ops.size - (k + 1)))) Q := by
      intro r hr1 hle T1 hput hrest
      obtain ⟨v, S1⟩ := r
      have hle2 := ops_le hrest
      refine hs hr1 (fun x _ u hu => ev_rel ht pr hu) hr pr (fun n h1 h2 => fresh n h1 (Nat.lt_of_lt_of_le h2 hle2)) ?_
      intro v' w' E' hv tr
      refine ops_ok hs hrest hl' (TR.put hput (ht.mono tr.ext) hv) tr.hr tr.pr ?_ (by rw [put_defers]; exact hd) ?_
      · intro n h1 h2 d
        rcases tr.dom n d with d | ⟨_, d⟩
        · exact fresh n (Nat.le_trans hle h1) h2 d
        · exact absurd h1 (by simp only at d ⊢; omega)
      · intro E2 a2 w2 ht2 hd2 tr2
        exact hq E2 a2 w2 ht2 hd2 (tr.trans tr2)
    have no : ∀ T1, putA nt T o.dst (.tup []) = some T1 → (opsA pol P ops.toList l).f rec nt T1 S = some (T', S') → wpOps P ops Q (List.range' (k + 1) (ops.size - (k + 1))) (a.put o.dst undef) w := by
      intro T1 hput hrest
      exact ops_ok hs hrest hl' (TR.put hput ht (VR.undef E)) hr pr fresh (by rw [put_defers]; exact hd) hq
    unfold opsA at h
    split at h
    · rename_i hg
      have hw : Region.wanted o (yielded ops a.tmps) = true := by unfold Region.wanted; rw [hg]
      rw [if_pos hw]
      simp only [o2_eq, on3_eq, ob_some, chk_some, nble_iff] at h
      obtain ⟨r, h1, _, hle, T1, hput, h⟩ := h
      exact .inl (yes r h1 hle T1 hput h)
    · rw [ob_some] at h
      obtain ⟨b, hb, h⟩ := h
      have hw := want_rel hb ht
      cases b
      · rw [bc_false] at h
        simp only [o2_eq, on3_eq, ob_some] at h
        obtain ⟨T1, hput, h⟩ := h
        rw [if_neg (by rw [hw]; simp)]
        exact no T1 hput h
      · rw [bc_true] at h
        simp only [o2_eq, on3_eq, ob_some, chk_some, nble_iff] at h
        obtain ⟨r, h1, _, hle, T1, hput, h⟩ := h
        rw [if_pos hw]
        exact .inl (yes r h1 hle T1 hput h)

end
end Go.Eng
namespace Go.Eng
set_option linter.unusedSectionVars false
variable [Gl] [Mx]

theorem Tran.widen {E E' : Gh} {h h' : Nat → Option AB} {w w' : World} {x y x0 y0 : Nat} (t : Tran E h w x E' h' w' y) (hx : x0 ≤ x) (hy : y ≤ y0) : Tran E h w x0 E' h' w' y0 := by
  have hle := t.le
  refine ⟨t.ext, by omega, ?_, t.hr, t.pr, t.size, ?_, t.own, t.frame, t.prot, t.env⟩
  · intro n d
    rcases t.dom n d with d | ⟨d, e⟩
    · exact .inl d
    · exact .inr ⟨by omega, by omega⟩
  · intro n b hb
    rcases t.names n b hb with r | ⟨d, e⟩
    · exact .inl r
    · exact .inr ⟨by omega, by omega⟩

structure Ent where
  i : Nat
  o : Oper
  T : Nat → Option AV
  want : Bool
  R : Nat → Option AB
  R' : Nat → Option AB
  x : Nat
  y : Nat
  v : AV
  pre : (Nat → Option AB) → Prop

/-- the slots ts hold what Tf says -/
def SR (E : Gh) (ts : List Tmp) (Tf : Nat → Option AV) (a : Act) : Prop := ∀ t ∈ ts, ∀ z, Tf t = some z → ∃ u, a.tmps[t]? = some u ∧ VR E z u

structure EntOk (P : Program) (ops : Array Oper) (nt : Nat) (e : Ent) : Prop where
  op : ops[e.i]? = some e.o
  dst : ∀ d, e.o.dst = some d → d < nt
  le : e.x ≤ e.y
  wants : ∀ E a, SR E (e.o.looksAt ops) e.T a → Region.wanted e.o (yielded ops a.tmps) = e.want
  no : e.want = false → e.v = .tup [] ∧ (∀ n, e.R n = none) ∧ (∀ n, e.R' n = none)
  yes : e.want = true → ∀ E a w K, SR E (e.o.looksAt ops) e.T a → HR E K w → e.pre K → (∀ n b, e.R n = some b → K n = some b) → PR E w → (∀ n, e.x ≤ n → n < e.y → ¬ E.dom n) → ∀ (next : Act → World → Prop) (Q : Exit → Act → World → Prop),
    (∀ v' w' E', VR E' e.v v' → Tran E e.R w e.x E' e.R' w' e.y → next (a.put e.o.dst v') w') → e.o.wp P a w next Q

def updT (Tf : Nat → Option AV) (e : Ent) : Nat → Option AV := fun t => if e.o.dst = some t then some e.v else Tf t

def touch (e : Ent) (n : Nat) : Prop := (e.R n).isSome = true ∨ (e.R' n).isSome = true

def Chain (ops : Array Oper) : List Ent → (Nat → Option AV) → (Nat → Option AB) → (Nat → Option AV) → (Nat → Option AB) → Prop
  | [], Tf, K, Tf', K' => Tf = Tf' ∧ K = K'
  | e :: l, Tf, K, Tf', K' => (∀ t ∈ e.o.looksAt ops, Tf t = e.T t) ∧ (∀ n b, e.R n = some b → K n = some b) ∧ e.pre K ∧ Chain ops l (updT Tf e) (merge K e.R e.R') Tf' K'

structure Indep (ops : Array Oper) (c e : Ent) : Prop where
  apart : c.o.apart ops e.o = true
  heap : ∀ n, touch c n → touch e n → c.R n = c.R' n ∧ e.R n = e.R' n
  preC : ∀ K, c.pre K → c.pre (merge K e.R e.R')
  preE : ∀ K, e.pre (merge K c.R c.R') → e.pre K

theorem merge_touch {K R R' : Nat → Option AB} {n : Nat} (h : (R n).isSome = true ∨ (R' n).isSome = true) : merge K R R' n = R' n := by
  unfold merge; rw [if_pos (by simpa using h)]
theorem merge_not {K R R' : Nat → Option AB} {n : Nat} (h : ¬ ((R n).isSome = true ∨ (R' n).isSome = true)) : merge K R R' n = K n := by
  unfold merge; rw [if_neg (by simpa using h)]

theorem Chain.swap {ops : Array Oper} {c e : Ent} {l : List Ent} {Tf Tf' : Nat → Option AV} {K K' : Nat → Option AB} (h : Chain ops (c :: e :: l) Tf K Tf' K') (hi : Indep ops c e) : Chain ops (e :: c :: l) Tf K Tf' K' := by
  obtain ⟨h1, h2, hp1, h3, h4, hp2, h5⟩ := h
  obtain ⟨a1, a2, a3⟩ := Oper.apart_spec hi.apart
  have subE : ∀ n b, e.R n = some b → K n = some b := by
    intro n b hb
    have := h4 n b hb
    by_cases ht : touch c n
    · rw [merge_touch ht] at this
      have hs := hi.heap n ht (.inl (by rw [hb]; rfl))
      rw [← hs.1] at this
      exact h2 n b this
    · rw [merge_not ht] at this; exact this
  have subC : ∀ n b, c.R n = some b → merge K e.R e.R' n = some b := by
    intro n b hb
    have hk := h2 n b hb
    by_cases ht : touch e n
    · rw [merge_touch ht]
      have hs := hi.heap n (.inl (by rw [hb]; rfl)) ht
      rw [← hs.2]
      have hsome : (e.R n).isSome = true := by
        rcases ht with ht | ht
        · exact ht
        · rw [hs.2]; exact ht
      obtain ⟨b', hb'⟩ := Option.isSome_iff_exists.1 hsome
      rw [hb', ← subE n b' hb', hk]
    · rw [merge_not ht]; exact hk
  have memo : merge (merge K e.R e.R') c.R c.R' = merge (merge K c.R c.R') e.R e.R' := by
    funext n
    by_cases hc : touch c n <;> by_cases he : touch e n
    · rw [merge_touch hc, merge_touch he]
      obtain ⟨s1, s2⟩ := hi.heap n hc he
      have c1 : ∃ b, c.R n = some b := by
        rcases hc with hc | hc
        · exact Option.isSome_iff_exists.1 hc
        · rw [← s1] at hc; exact Option.isSome_iff_exists.1 hc
      have e1 : ∃ b, e.R n = some b := by
        rcases he with he | he
        · exact Option.isSome_iff_exists.1 he
        · rw [← s2] at he; exact Option.isSome_iff_exists.1 he
      obtain ⟨b, hb⟩ := c1
      obtain ⟨b', hb'⟩ := e1
      rw [← s1, ← s2, hb, hb', ← h2 n b hb, ← subE n b' hb']
    · rw [merge_touch hc, merge_not he, merge_touch hc]
    · rw [merge_not hc, merge_touch he, merge_touch he]
    · rw [merge_not hc, merge_not he, merge_not he, merge_not hc]
  have tmo : updT (updT Tf e) c = updT (updT Tf c) e := by
    funext t
    unfold updT
    by_cases hc : c.o.dst = some t <;> by_cases he : e.o.dst = some t
    · exact absurd he (a2 t hc)
    · simp [hc, he]
    · simp [hc, he]
    · simp [hc, he]
  refine ⟨fun t ht => ?_, subE, hi.preE K hp2, fun t ht => ?_, subC, hi.preC K hp1, ?_⟩
  · have := h3 t ht
    unfold updT at this
    rw [if_neg (fun hd => a1 t hd ht)] at this
    exact this
  · have := h1 t ht
    unfold updT
    rw [if_neg (fun hd => a3 t hd ht)]
    exact this
  · rw [memo, tmo]; exact h5

theorem Chain.pull {ops : Array Oper} {e : Ent} {l2 : List Ent} {Tf' : Nat → Option AV} {K' : Nat → Option AB} : ∀ {l1 : List Ent} {Tf : Nat → Option AV} {K : Nat → Option AB}, Chain ops (l1 ++ e :: l2) Tf K Tf' K' →
    (∀ c ∈ l1, Indep ops c e) → Chain ops (e :: (l1 ++ l2)) Tf K Tf' K'
  | [], _, _, h, _ => h
  | c :: l1, Tf, K, h, hi => by
    obtain ⟨h1, h2, hp, h3⟩ := h
    have := Chain.pull h3 (fun d hd => hi d (by simp [hd]))
    exact Chain.swap (l := l1 ++ l2) ⟨h1, h2, hp, this⟩ (hi c (by simp))

/-- d must come before i, by an edge -/
def Edge1 (ops : Array Oper) (d i : Nat) : Prop := ∃ o, ops[i]? = some o ∧ ∃ e ∈ o.after, Region.binds .any e = true ∧ e.on = d

/-- by edges -/
inductive Dep (ops : Array Oper) : Nat → Nat → Prop where
  | one {d i : Nat} : Edge1 ops d i → Dep ops d i
  | more {c d i : Nat} : Dep ops c d → Edge1 ops d i → Dep ops c i

structure Rel2 (ops : Array Oper) (c e : Ent) : Prop where
  free : Indep ops c e ∨ Dep ops c.i e.i
  noBack : ¬ Edge1 ops e.i c.i
  names : c.y ≤ e.x
  ne : c.i ≠ e.i

theorem wpAny_chain {P : Program} {ops : Array Oper} {Q : Exit → Act → World → Prop} {nt x0 y0 : Nat} {E0 : Gh} {K0 : Nat → Option AB} {w0 : World} {Tf' : Nat → Option AV} {K' : Nat → Option AB}
    (hq : ∀ E a w, a.tmps.size = nt → (∀ t z, Tf' t = some z → ∃ u, a.tmps[t]? = some u ∧ VR E z u) → a.defers = [] → Tran E0 K0 w0 x0 E K' w y0 → Q .normal a w) :
    ∀ (k : Nat) (L : List Ent) (listed : Array Bool) (Tf : Nat → Option AV) (K : Nat → Option AB) (E : Gh) (a : Act) (w : World), L.length = k → listed.size = ops.size →
      (∀ i, i < ops.size → (listed.getD i true = false ↔ ∃ e ∈ L, e.i = i)) → (∀ e ∈ L, EntOk P ops nt e) → L.Pairwise (Rel2 ops) → (∀ e ∈ L, ¬ Edge1 ops e.i e.i) →
      (∀ d i, Edge1 ops d i → listed.getD i true = true → i < ops.size → listed.getD d true = true ∧ d < ops.size) → (∀ e ∈ L, ∀ d, Edge1 ops d e.i → d < ops.size) →
      Chain ops L Tf K Tf' K' → a.tmps.size = nt → (∀ t z, Tf t = some z → ∃ u, a.tmps[t]? = some u ∧ VR E z u) → a.defers = [] → HR E K w → PR E w →
      (∀ e ∈ L, x0 ≤ e.x ∧ e.y ≤ y0) → (∀ e ∈ L, ∀ n, e.x ≤ n → n < e.y → ¬ E.dom n) → Tran E0 K0 w0 x0 E K w y0 → wpAny P .any ops Q k listed a w := by
  intro k
  have getd : ∀ (listed : Array Bool) (j : Nat), j < ops.size → listed.size = ops.size → (listed.getD j false = true ↔ listed.getD j true = true) := by
    intro listed j hj hs
    have : j < listed.size := by omega
    simp [Array.getD, this]
  induction k with
  | zero =>
    intro L listed Tf K E a w hk hsz hlist _ _ _ _ _ hch hnt hT hd hr pr _ _ htr
    obtain rfl : L = [] := List.eq_nil_of_length_eq_zero hk
    obtain ⟨rfl, rfl⟩ := hch
    refine ⟨?_, hq E a w hnt hT hd htr⟩
    apply List.eq_nil_iff_forall_not_mem.2
    intro j hj
    obtain ⟨h0, o, ho, _⟩ := mem_ready.1 hj
    have hlt := (Array.getElem?_eq_some_iff.1 ho).1
    obtain ⟨e, he, _⟩ := (hlist j hlt).1 h0
    simp at he
  | succ k ih =>
    intro L listed Tf K E a w hk hsz hlist hok hpw hself hclosed hedges hch hnt hT hd hr pr hxy hfresh htr
    refine ⟨fun hready => ?_, fun i hi => ?_⟩
    · -- something is ready
      exfalso
      match L, hk with
      | e :: l, _ =>
        have hoe := (hok e (by simp)).op
        have hlt := (Array.getElem?_eq_some_iff.1 hoe).1
        have : e.i ∈ Region.ready .any ops listed := by
          rw [mem_ready]
          refine ⟨(hlist e.i hlt).2 ⟨e, by simp, rfl⟩, e.o, hoe, fun ed hed hb => ?_⟩
          have hedge : Edge1 ops ed.on e.i := ⟨e.o, hoe, ed, hed, hb, rfl⟩
          have hdl := hedges e (by simp) ed.on hedge
          rw [getd listed ed.on hdl hsz]
          cases hc : listed.getD ed.on true with
          | true => rfl
          | false =>
            exfalso
            obtain ⟨e', he', hei⟩ := (hlist ed.on hdl).1 hc
            rcases List.mem_cons.1 he' with rfl | he'
            · exact hself e' (by simp) (by rw [← hei] at hedge; exact hedge)
            · rw [← hei] at hedge
              exact ((List.pairwise_cons.1 hpw).1 e' he').noBack hedge
        rw [hready] at this
        cases this
    · obtain ⟨h0, o, ho, hall⟩ := mem_ready.1 hi
      have hlt := (Array.getElem?_eq_some_iff.1 ho).1
      obtain ⟨e, he, rfl⟩ := (hlist i hlt).1 h0
      have hek := hok e he
      obtain ⟨l1, l2, rfl⟩ := List.append_of_mem he
      have hoe : e.o = o := by have := hek.op; rw [ho] at this; cases this; rfl
      -- whatever i depends on is listed
      have hdep : ∀ c j, Dep ops c j → (∀ d, Edge1 ops d j → listed.getD d true = true ∧ d < ops.size) → listed.getD c true = true := by
        intro c j hcj
        induction hcj with
        | one h => intro hp; exact (hp _ h).1
        | more h1 h2 ih2 =>
          intro hp
          obtain ⟨hd1, hd2⟩ := hp _ h2
          exact ih2 fun d' hd' => hclosed d' _ hd' hd1 hd2
      have hpre : ∀ d, Edge1 ops d e.i → listed.getD d true = true ∧ d < ops.size := by
        rintro d ⟨o', ho', ed, hed, hb, rfl⟩
        rw [ho] at ho'
        cases ho'
        have hdl := hedges e he ed.on ⟨o, ho, ed, hed, hb, rfl⟩
        exact ⟨(getd listed ed.on hdl hsz).1 (hall ed hed hb), hdl⟩
      have hind : ∀ c ∈ l1, Indep ops c e := by
        intro c hc
        have hrel : Rel2 ops c e := by
          have := (List.pairwise_append.1 hpw).2.2 c hc e (by simp)
          exact this
        rcases hrel.free with h | h
        · exact h
        · exfalso
          have hl := hdep _ _ h hpre
          have hci := (hok c (by simp [hc])).op
          have hcl := (Array.getElem?_eq_some_iff.1 hci).1
          have := (hlist c.i hcl).2 ⟨c, by simp [hc], rfl⟩
          rw [this] at hl; cases hl
      obtain ⟨c1, c2, cp, c3⟩ := Chain.pull hch hind
      have hsr : SR E (e.o.looksAt ops) e.T a := by
        intro t ht z hz
        rw [← c1 t ht] at hz
        exact hT t z hz
      have hsub : (l1 ++ l2).Sublist (l1 ++ e :: l2) := List.Sublist.append (List.Sublist.refl _) (List.sublist_cons_self _ _)
      have hne : ∀ e' ∈ l1 ++ l2, e'.i ≠ e.i := by
        intro e' he'
        rcases List.mem_append.1 he' with h | h
        · exact ((List.pairwise_append.1 hpw).2.2 e' h e (by simp)).ne
        · exact Ne.symm ((List.pairwise_cons.1 (List.pairwise_append.1 hpw).2.1).1 e' h).ne
      have hdisj : ∀ e' ∈ l1 ++ l2, e'.y ≤ e.x ∨ e.y ≤ e'.x := by
        intro e' he'
        rcases List.mem_append.1 he' with h | h
        · exact .inl ((List.pairwise_append.1 hpw).2.2 e' h e (by simp)).names
        · exact .inr ((List.pairwise_cons.1 (List.pairwise_append.1 hpw).2.1).1 e' h).names
      have hin : ∀ e' ∈ l1 ++ l2, e' ∈ l1 ++ e :: l2 := fun e' h => hsub.subset h
      -- the rest of the region behind this operation
      have rest : ∀ v' w' E', VR E' e.v v' → Tran E K w x0 E' (merge K e.R e.R') w' y0 → (∀ n, E'.dom n → E.dom n ∨ (e.x ≤ n ∧ n < e.y)) → wpAny P .any ops Q k (listed.setIfInBounds e.i true) (a.put e.o.dst v') w' := by
        intro v' w' E' hv tr hdom
        refine ih (l1 ++ l2) _ (updT Tf e) _ E' _ w' ?_ (by simpa using hsz) ?_ (fun e' h => hok e' (hin e' h)) (hpw.sublist hsub) (fun e' h => hself e' (hin e' h)) ?_ (fun e' h => hedges e' (hin e' h)) c3 ?_ ?_ (by rw [put_defers]; exact hd) tr.hr tr.pr
          (fun e' h => hxy e' (hin e' h)) ?_ (htr.trans2 tr (Nat.le_refl _) (Nat.le_refl _))
        · simp at hk ⊢; omega
        · intro j hj
          by_cases ej : j = e.i
          · subst ej
            constructor
            · intro hf
              have : e.i < listed.size := by omega
              simp [Array.getD, this] at hf
            · rintro ⟨e', he', hei⟩
              exact absurd hei (hne e' he')
          · rw [getD_set_ne true (Ne.symm ej), hlist j hj]
            constructor
            · rintro ⟨e', he', rfl⟩
              refine ⟨e', ?_, rfl⟩
              rcases List.mem_append.1 he' with h | h
              · exact List.mem_append_left _ h
              · rcases List.mem_cons.1 h with rfl | h
                · exact absurd rfl ej
                · exact List.mem_append_right _ h
            · rintro ⟨e', he', rfl⟩
              exact ⟨e', hin e' he', rfl⟩
        · intro d j hedge hj hjl
          by_cases ej : j = e.i
          · subst ej
            obtain ⟨p1, p2⟩ := hpre d hedge
            refine ⟨?_, p2⟩
            by_cases ed : d = e.i
            · subst ed; exact hj
            · rw [getD_set_ne true (Ne.symm ed)]; exact p1
          · rw [getD_set_ne true (Ne.symm ej)] at hj
            obtain ⟨p1, p2⟩ := hclosed d j hedge hj hjl
            refine ⟨?_, p2⟩
            by_cases ed : d = e.i
            · subst ed
              have : e.i < listed.size := by omega
              simp [Array.getD, this]
            · rw [getD_set_ne true (Ne.symm ed)]; exact p1
        · cases hdst : e.o.dst with
          | none => simpa [Act.put, hdst] using hnt
          | some d => simpa [Act.put, hdst] using hnt
        · intro t z hz
          unfold updT at hz
          by_cases hdt : e.o.dst = some t
          · rw [if_pos hdt] at hz
            cases hz
            have := hek.dst t hdt
            exact ⟨v', by rw [hdt]; simp [Act.put, hnt, this], hv⟩
          · rw [if_neg hdt] at hz
            obtain ⟨u, hu, hzu⟩ := hT t z hz
            refine ⟨u, ?_, VR.mono tr.ext _ _ hzu⟩
            cases hdst : e.o.dst with
            | none => simpa [Act.put] using hu
            | some d =>
              have : d ≠ t := fun e' => hdt (by rw [hdst, e'])
              simp only [Act.put, Array.getElem?_setIfInBounds_ne this]
              exact hu
        · intro e' he' n h1 h2 hdn
          rcases hdom n hdn with h | ⟨h3, h4⟩
          · exact hfresh e' (hin e' he') n h1 h2 h
          · rcases hdisj e' he' with h | h <;> omega
      unfold wpOp
      rw [hek.op]
      simp only
      rw [hek.wants E a hsr]
      have hbx := hxy e he
      cases hw : e.want with
      | false =>
        simp only [Bool.false_eq_true, if_false]
        obtain ⟨n1, n2, n3⟩ := hek.no hw
        have hm : merge K e.R e.R' = K := by
          funext n
          rw [merge_not (by rw [n2 n, n3 n]; simp)]
        refine rest undef w E (by rw [n1]; exact VR.undef E) ?_ (fun n h => .inl h)
        rw [hm]
        exact (Tran.refl x0 hr pr).widen (Nat.le_refl _) (by have := hek.le; omega)
      | true =>
        simp only [if_true]
        refine .inl (hek.yes hw E a w K hsr hr cp c2 pr (hfresh e he) _ _ ?_)
        intro v' w' E' hv tr
        have t2 := tr.frameRule hr c2
        exact rest v' w' E' hv (t2.widen hbx.1 hbx.2) tr.dom

end Go.Eng
namespace Go.Eng
set_option linter.unusedSectionVars false
variable [Gl] [Mx]

theorem back_get (old h : Tr AB) : ∀ (ns : List Nat) (n : Nat), (back old h ns).get n = if n ∈ ns then old.get n else h.get n
  | [], n => by simp [back]
  | m :: ns, n => by
    show Tr.getP (pathOf n) ((back old h ns).setP (old.get m) (pathOf m)) = _
    rw [Tr.getP_setP]
    by_cases e : n = m
    · subst e; simp
    · rw [if_neg (fun h => e (pathOf_inj h))]
      have := back_get old h ns n
      unfold Tr.get at this
      rw [this]
      simp [e, Tr.get]

theorem dels_get (h : Tr AB) : ∀ (ns : List Nat) (n : Nat), (dels h ns).get n = if n ∈ ns then none else h.get n
  | [], n => by simp [dels]
  | m :: ns, n => by
    simp only [dels, Tr.get_del, dels_get h ns n, List.mem_cons]
    by_cases e : n = m <;> simp [e]

theorem restrict_get (h : Tr AB) : ∀ (ns : List Nat) (n : Nat), (restrict h ns).get n = if n ∈ ns then h.get n else none
  | [], n => by simp [restrict]
  | m :: ns, n => by
    unfold restrict
    split
    · rename_i b hb
      rw [Tr.get_put, restrict_get h ns n]
      by_cases e : n = m
      · subst e; simp [hb]
      · simp [e]
    · rename_i hb
      rw [restrict_get h ns n]
      by_cases e : n = m
      · subst e; simp [hb]
      · simp [e]

section
variable {P : Program} {ops : Array Oper} {pol : FuncId → Bool} {rec : RunT}

/-- a pure operation looks at no memory -/
theorem pure_local {o : Op} {T : Tm} {S S' : St} {v : AV} (hc : cls pol o = .pure) (h : (aOp pol P o).f rec T S = some (v, S')) (m : Nat) : S' = S ∧ (aOp pol P o).f rec T ⟨.lf, m⟩ = some (v, ⟨.lf, m⟩) := by
  cases o <;> simp only [cls, reduceCtorEq] at hc
  case pick c a b =>
    simp only [aOp, o2_eq, on3_eq, ob_some] at h ⊢
    obtain ⟨x, hx, h⟩ := h
    split at h
    · simp only [o2_eq, on3_eq, ob_some, Option.some.injEq, Prod.mk.injEq] at h
      obtain ⟨y, hy, rfl, rfl⟩ := h
      exact ⟨rfl, _, hx, by simp [Option.ob, hy]⟩
    · simp only [o2_eq, on3_eq, ob_some, Option.some.injEq, Prod.mk.injEq] at h
      obtain ⟨y, hy, rfl, rfl⟩ := h
      exact ⟨rfl, _, hx, by simp [Option.ob, hy]⟩
    · cases h
  case slice t x lo hi mx =>
    cases hb : allN lo hi mx with
    | true => rw [hb] at hc; cases hc
    | false =>
      simp only [aOp, sliceX, hb, cond_false, o2_eq, on3_eq, ob_some, Option.some.injEq, Prod.mk.injEq] at h ⊢
      obtain ⟨u, hu, z, hz, rfl, rfl⟩ := h
      exact ⟨rfl, u, hu, z, hz, rfl, trivial⟩
  case nilCheck x =>
    simp only [aOp, o2_eq, on3_eq, ob_some] at h ⊢
    obtain ⟨u, hu, h⟩ := h
    split at h
    · cases h
    · cases h
    · cases h
    · rename_i n1 n2 n3
      cases h
      refine ⟨rfl, v, hu, ?_⟩
      cases v <;> first | rfl | (exfalso; first | exact n1 rfl | exact n2 rfl | exact n3 rfl)
  case makeInterface t x =>
    simp only [aOp, o2_eq, on3_eq, ob_some] at h ⊢
    obtain ⟨e, he, u, hu, h⟩ := h
    split at h
    · cases h
    · rename_i hni
      cases h
      refine ⟨rfl, e, he, u, hu, ?_⟩
      split
      · rename_i hi; exact absurd hi (hni _)
      · rfl
  case makeFunc fn f c =>
    simp only [aOp] at h ⊢
    split at h
    · simp only [o2_eq, on3_eq, ob_some, Option.some.injEq, Prod.mk.injEq] at h
      obtain ⟨a, ha, b, hb, rfl, rfl⟩ := h
      exact ⟨rfl, by simp [Option.ob, ha, hb]⟩
    · cases h
  case extract t i =>
    simp only [aOp, o2_eq, on3_eq, ob_some] at h ⊢
    obtain ⟨u, hu, h⟩ := h
    split at h
    · simp only [o2_eq, on3_eq, ob_some, Option.some.injEq, Prod.mk.injEq] at h
      obtain ⟨y, hy, rfl, rfl⟩ := h
      exact ⟨rfl, _, hu, by simp [Option.ob, hy]⟩
    · cases h
  case call c =>
    have key : ∀ b, c.callee = .builtin b → (b = .max ∨ b = .min) → S' = S ∧ (aOp pol P (.call c)).f rec T ⟨.lf, m⟩ = some (v, ⟨.lf, m⟩) := by
      intro b hb hm
      simp only [aOp, hb, o2_eq, on3_eq, ob_some] at h ⊢
      obtain ⟨args, ha, h⟩ := h
      rcases hm with rfl | rfl
      · simp only [builtinA, o2_eq, on3_eq, ob_some, Option.some.injEq, Prod.mk.injEq] at h
        obtain ⟨y, hy, rfl, rfl⟩ := h
        exact ⟨rfl, args, ha, by simp [builtinA, Option.ob, hy]⟩
      · simp only [builtinA, o2_eq, on3_eq, ob_some, Option.some.injEq, Prod.mk.injEq] at h
        obtain ⟨y, hy, rfl, rfl⟩ := h
        exact ⟨rfl, args, ha, by simp [builtinA, Option.ob, hy]⟩
    split at hc
    · cases hc
    · rename_i hb; exact key _ hb (.inl rfl)
    · rename_i hb; exact key _ hb (.inr rfl)
    · cases hc
    · rename_i f _
      cases hp : polO pol f <;> simp [hp] at hc
    · cases hc
  all_goals
    simp only [aOp, o2_eq, on3_eq, ob_some, Option.some.injEq, Prod.mk.injEq] at h
    first
      | (obtain ⟨x1, h1, rfl, rfl⟩ := h; exact ⟨rfl, by simp only [aOp, h1]; rfl⟩)
      | (obtain ⟨x1, h1, x2, h2, rfl, rfl⟩ := h; exact ⟨rfl, by simp only [aOp, h1, o2_eq, on3_eq, ob_some]; exact ⟨_, rfl, _, h2, rfl⟩⟩)
      | (obtain ⟨x1, h1, x2, h2, x3, h3, rfl, rfl⟩ := h; exact ⟨rfl, by simp only [aOp, h1, h2, o2_eq, on3_eq, ob_some]; exact ⟨_, rfl, _, rfl, _, h3, rfl⟩⟩)

theorem readOf_congr {H H' : Tr AB} {m m' n : Nat} (h : H.get n = H'.get n) : readOf ⟨H, m⟩ n = readOf ⟨H', m'⟩ n := by simp only [readOf, h]
theorem entriesOf_congr {H H' : Tr AB} {m m' n : Nat} (h : H.get n = H'.get n) : entriesOf ⟨H, m⟩ n = entriesOf ⟨H', m'⟩ n := by simp only [entriesOf, h]

theorem loadA_congr {e : TE} {H H' : Tr AB} {m m' : Nat} {p u : AV} (h : ∀ n ∈ nameOf p, H.get n = H'.get n) (hl : loadA e ⟨H, m⟩ p = some u) : loadA e ⟨H', m'⟩ p = some u := by
  unfold loadA at hl ⊢
  split at hl
  · rename_i n off
    rw [readOf_congr (H' := H') (m' := m') (h n (by simp [nameOf]))] at hl
    exact hl
  · exact hl
  · cases hl

theorem lookupA_congr {t : TypeId} {k u : AV} {ok : Bool} {H H' : Tr AB} {m m' : Nat} {p : AV} (h : ∀ n ∈ nameOf p, H.get n = H'.get n) (hl : lookupA P ⟨H, m⟩ t p k ok = some u) : lookupA P ⟨H', m'⟩ t p k ok = some u := by
  simp only [lookupA, o2_eq, on3_eq, ob_some] at hl ⊢
  obtain ⟨e, he, ke, hke, kt, hkt, et, het, x, hx, es, hes, r, hr, hl⟩ := hl
  refine ⟨e, he, ke, hke, kt, hkt, et, het, x, hx, es, ?_, r, hr, hl⟩
  split at hes
  · exact hes
  · rename_i n
    simp only [o2_eq, on3_eq, ob_some] at hes ⊢
    obtain ⟨c, hc, hes⟩ := hes
    exact ⟨c, by rw [← entriesOf_congr (h n (by simp [nameOf]))]; exact hc, hes⟩
  · cases hes

theorem convU_congr {s d : TypeDesc} {H H' : Tr AB} {m m' : Nat} {p u : AV} (h : ∀ n ∈ nameOf p, H.get n = H'.get n) (hl : convU P ⟨H, m⟩ s d p = some u) : convU P ⟨H', m'⟩ s d p = some u := by
  unfold convU at hl ⊢
  split at hl
  · rename_i n off
    have e := h n (by simp [nameOf])
    simp only [o2_eq, on3_eq, ob_some] at hl ⊢
    obtain ⟨g, hg, cs, hcs, hl⟩ := hl
    exact ⟨g, hg, cs, by rw [← readOf_congr e]; exact hcs, hl⟩
  · rename_i u n off
    have e := h n (by simp [nameOf])
    have e2 : typed ⟨H', m'⟩ n u = typed ⟨H, m⟩ n u := by simp only [typed, e]
    have e3 : cellsOf ⟨H', m'⟩ n = cellsOf ⟨H, m⟩ n := by simp only [cellsOf, e]
    rw [e2, e3]
    exact hl
  · cases hl

theorem convA_congr {s d : TypeId} {H H' : Tr AB} {m m' : Nat} {p u : AV} (h : ∀ n ∈ nameOf p, H.get n = H'.get n) (hl : convA P ⟨H, m⟩ s d p = some u) : convA P ⟨H', m'⟩ s d p = some u := by
  simp only [convA, o2_eq, on3_eq, ob_some] at hl ⊢
  obtain ⟨s', hs, d', hd, hl⟩ := hl
  refine ⟨s', hs, d', hd, ?_⟩
  split at hl
  · exact hl
  · exact hl
  · rename_i e h1 h2
    simp only [o2_eq, on3_eq, ob_some] at hl ⊢
    obtain ⟨g, hg, hl⟩ := hl
    refine ⟨g, hg, ?_⟩
    split at hl
    · exact hl
    · rename_i b off len c z h3
      simp only [o2_eq, on3_eq, ob_some] at hl ⊢
      obtain ⟨cs, hcs, hl⟩ := hl
      refine ⟨cs, ?_, hl⟩
      simp only [srcA] at hcs ⊢
      rw [← readOf_congr (h b (by simp [nameOf]))]; exact hcs
    · rename_i h3
      simp only [o2_eq, on3_eq, ob_some] at hl ⊢
      obtain ⟨cs, hcs, hl⟩ := hl
      exact ⟨cs, hcs, hl⟩
    · cases hl
  · exact convU_congr h hl

theorem lenA_congr {t : TypeId} {H H' : Tr AB} {m m' : Nat} {p u : AV} (h : ∀ n, p = .map n → H.get n = H'.get n) (hl : lenA P ⟨H, m⟩ t p = some u) : lenA P ⟨H', m'⟩ t p = some u := by
  simp only [lenA, o2_eq, on3_eq, ob_some] at hl ⊢
  obtain ⟨e, he, hl⟩ := hl
  refine ⟨e, he, ?_⟩
  split at hl
  all_goals first | (cases hl; done) | skip
  case h_7 k el n h1 =>
    simp only [o2_eq, on3_eq, ob_some] at hl ⊢
    obtain ⟨c, hc, hl⟩ := hl
    exact ⟨c, by rw [← entriesOf_congr (h n rfl)]; exact hc, hl⟩
  all_goals exact hl

/-- a reading operation leaves memory alone, and looks at its blocks alone -/
theorem read_congr {o : Op} {T : Tm} {H H' : Tr AB} {m m' : Nat} {S' : St} {v : AV} (hc : cls pol o = .read) (h : (aOp pol P o).f rec T ⟨H, m⟩ = some (v, S')) (hh : ∀ n ∈ foot T o, H.get n = H'.get n) :
    S' = ⟨H, m⟩ ∧ (aOp pol P o).f rec T ⟨H', m'⟩ = some (v, ⟨H', m'⟩) := by
  cases o <;> simp only [cls, reduceCtorEq] at hc
  case slice t x lo hi mx => cases hb : allN lo hi mx <;> rw [hb] at hc <;> cases hc
  case load t p =>
    simp only [aOp] at h ⊢
    split at h
    · rename_i e he
      simp only [o2_eq, on3_eq, ob_some, Option.some.injEq, Prod.mk.injEq] at h ⊢
      obtain ⟨q, hq, u, hu, rfl, rfl⟩ := h
      exact ⟨rfl, q, hq, u, loadA_congr (fun n hn => hh n (by simp only [foot, hq]; exact hn)) hu, rfl, trivial⟩
    · cases h
  case convert s d x =>
    simp only [aOp, o2_eq, on3_eq, ob_some, Option.some.injEq, Prod.mk.injEq] at h ⊢
    obtain ⟨q, hq, u, hu, rfl, rfl⟩ := h
    exact ⟨rfl, q, hq, u, convA_congr (fun n hn => hh n (by simp only [foot, hq]; exact hn)) hu, rfl, trivial⟩
  case lookup t x i ok =>
    simp only [aOp, o2_eq, on3_eq, ob_some, Option.some.injEq, Prod.mk.injEq] at h ⊢
    obtain ⟨q, hq, k, hk, u, hu, rfl, rfl⟩ := h
    exact ⟨rfl, q, hq, k, hk, u, lookupA_congr (fun n hn => hh n (by simp only [foot, hq]; exact hn)) hu, rfl, trivial⟩
  case call c =>
    split at hc
    · rename_i hcal
      simp only [aOp, hcal, o2_eq, on3_eq, ob_some] at h ⊢
      obtain ⟨args, ha, h⟩ := h
      unfold builtinA at h
      split at h
      · rename_i x t ts _ hts
        simp only [o2_eq, on3_eq, ob_some, Option.some.injEq, Prod.mk.injEq] at h
        obtain ⟨z, hz, rfl, rfl⟩ := h
        refine ⟨rfl, [x], ha, ?_⟩
        simp only [builtinA, hts, o2_eq, on3_eq, ob_some, Option.some.injEq, Prod.mk.injEq]
        refine ⟨z, lenA_congr (fun n hn => hh n ?_) hz, rfl, trivial⟩
        subst hn
        match hargs : c.args.toList, ha with
        | [], ha => simp [evs] at ha
        | [y], ha =>
          simp only [evs, o2_eq, on3_eq, ob_some, Option.some.injEq] at ha
          obtain ⟨u, hu, us, rfl, hus⟩ := ha
          cases hus
          simp [foot, hargs, hu]
        | _ :: _ :: _, ha =>
          simp only [evs, o2_eq, on3_eq, ob_some, Option.some.injEq] at ha
          obtain ⟨u, hu, us, ⟨u2, _, us2, _, rfl⟩, hus⟩ := ha
          cases hus
      all_goals first | (cases h; done) | contradiction
    · cases hc
    · cases hc
    · cases hc
    · rename_i f _
      cases hp : polO pol f <;> simp [hp] at hc
    · cases hc

/-- a reading operation calls nothing -/
theorem read_rec {o : Op} {T : Tm} {S : St} (hc : cls pol o = .read) (pol' : FuncId → Bool) (rec' : RunT) : (aOp pol P o).f rec T S = (aOp pol' P o).f rec' T S := by
  cases o <;> simp only [cls, reduceCtorEq] at hc
  case slice t x lo hi mx => cases hb : allN lo hi mx <;> rw [hb] at hc <;> cases hc
  case load t p => simp only [aOp]; split <;> rfl
  case convert => rfl
  case lookup => rfl
  case call c =>
    cases hcal : c.callee <;> rw [hcal] at hc
    · rename_i f
      cases hp : polO pol f <;> simp [hp] at hc
    · cases hc
    · simp only [aOp, hcal]

theorem nameOf_one (v : AV) : nameOf v = [] ∨ ∃ n, nameOf v = [n] := by cases v <;> simp [nameOf]

theorem foot_one (T : Tm) (o : Op) : foot T o = [] ∨ ∃ n, foot T o = [n] := by
  unfold foot
  split
  · split
    · exact nameOf_one _
    · exact .inl rfl
  · split
    · exact nameOf_one _
    · exact .inl rfl
  · split
    · exact nameOf_one _
    · exact .inl rfl
  · split
    · split
      · exact .inr ⟨_, rfl⟩
      · exact .inl rfl
    · exact .inl rfl
  · exact .inl rfl

/-- an operation that makes a block makes one, and looks at no memory -/
theorem alloc_local {o : Op} {T : Tm} {S S' : St} {v : AV} (hc : cls pol o = .alloc) (hb : isBt o = false) (h : (aOp pol P o).f rec T S = some (v, S')) :
    ∃ b, S' = newB S b ∧ (aOp pol P o).f rec T ⟨.lf, S.next⟩ = some (v, newB ⟨.lf, S.next⟩ b) := by
  cases o <;> simp only [cls, reduceCtorEq] at hc
  case slice t x lo hi mx => cases hb : allN lo hi mx <;> rw [hb] at hc <;> cases hc
  case alloc t =>
    simp only [aOp] at h ⊢
    split at h
    · cases har : Mx.ar t <;> rw [har] at h
      · cases h; exact ⟨_, rfl, rfl⟩
      · rename_i e he
        have h : allocArr P e S = some (v, S') := h
        show ∃ b, S' = newB S b ∧ allocArr P e ⟨.lf, S.next⟩ = some (v, newB ⟨.lf, S.next⟩ b)
        unfold allocArr at h ⊢
        split at h
        · simp only [o2_eq, on3_eq, ob_some, Option.some.injEq, Prod.mk.injEq] at h
          obtain ⟨g, hg, u, hu, rfl, rfl⟩ := h
          exact ⟨_, rfl, by rw [hg]; show (chk (e.zero.cells.length.beq (_ * g.size))).ob _ = _; rw [hu]; rfl⟩
        · cases h
    · cases h
  case box t x =>
    simp only [aOp] at h ⊢
    split at h
    · simp only [o2_eq, on3_eq, ob_some, Option.some.injEq, Prod.mk.injEq] at h
      obtain ⟨u, hu, rfl, rfl⟩ := h
      exact ⟨_, rfl, by simp [Option.ob, hu]⟩
    · cases h
  case makeMap t r =>
    simp only [aOp, o2_eq, on3_eq, ob_some, Option.some.injEq, Prod.mk.injEq] at h ⊢
    obtain ⟨u, hu, rfl, rfl⟩ := h
    exact ⟨_, rfl, u, hu, rfl, rfl⟩
  case buildSlice t n ps =>
    simp only [aOp, o2_eq, on3_eq, ob_some] at h ⊢
    obtain ⟨vs, hvs, h⟩ := h
    simp only [isBt] at hb
    simp only [hb, bc_false] at h ⊢
    unfold buildSliceA at h ⊢
    simp only [o2_eq, on3_eq, ob_some] at h ⊢
    obtain ⟨e, he, el, hel, g, hg, u, hu, r, hr, h⟩ := h
    cases h
    exact ⟨_, rfl, vs, hvs, e, he, el, hel, g, hg, u, hu, r, hr, rfl⟩
  case makeSlice t l c =>
    simp only [aOp, o2_eq, on3_eq, ob_some] at h ⊢
    obtain ⟨x, hx, y, hy, h⟩ := h
    unfold makeSliceA at h ⊢
    simp only [o2_eq, on3_eq, ob_some] at h ⊢
    obtain ⟨l', hl, c', hc', e, he, el, hel, g, hg, u, hu, h⟩ := h
    cases h
    exact ⟨_, rfl, x, hx, y, hy, l', hl, c', hc', e, he, el, hel, g, hg, u, hu, rfl⟩
  case call c =>
    split at hc
    all_goals first | cases hc | (rename_i f _; cases hp : polO pol f <;> simp [hp] at hc)

end
end Go.Eng
namespace Go.Eng
set_option linter.unusedSectionVars false
variable [Gl] [Mx]
section
variable {P : Program} {ops : Array Oper} {pol : FuncId → Bool} {rec : RunT}

theorem wants_of {nt : Nat} {o : Oper} {T : Tm} {b : Bool} (h : wantA ops.toList T o = some b) (E : Gh) (a : Act) (hs : SR E (o.looksAt ops) T.get a) : Region.wanted o (yielded ops a.tmps) = b := by
  have _ := nt
  unfold wantA at h
  unfold Region.wanted
  split at h
  · rename_i hg; rw [hg]; cases h; rfl
  · rename_i j wnt hg
    rw [hg]
    simp only
    unfold yielded
    have e : (ops[j]?).bind (·.dst) = (ops.toList[j]?).ob (·.dst) := by rw [ob_eq]; simp
    split at h
    · rename_i hd
      rw [e, hd]; cases h; rfl
    · rename_i d hd
      rw [ob_some] at h
      obtain ⟨x, hx, h⟩ := h
      have hmem : d ∈ o.looksAt ops := by
        unfold Oper.looksAt
        refine List.mem_append_right _ ?_
        simp only [hg]
        rw [e, hd]; simp
      obtain ⟨u, hu, hxu⟩ := hs d hmem x hx
      rw [e, hd]
      simp only [Option.bind_some, hu]
      cases x <;> simp only [VR] at hxu
      case bool c => subst hxu; cases h; cases c <;> cases wnt <;> rfl
      all_goals
        cases h
        first
          | (subst hxu; rfl)
          | (rcases hxu with ⟨_, _, _, _, rfl, _⟩ | ⟨_, _, rfl⟩ <;> rfl)
          | (obtain ⟨_, rfl⟩ := hxu; rfl)
          | (obtain ⟨_, rfl, _⟩ := hxu; rfl)
          | (obtain ⟨_, _, rfl, _⟩ := hxu; rfl)
          | (obtain ⟨_, _, _, rfl, _⟩ := hxu; rfl)

theorem operands_of {o : Oper} {T : Tm} {E : Gh} {a : Act} {w : World} (hs : SR E (o.looksAt ops) T.get a) (pr : PR E w) : ∀ x ∈ o.op.operands.toList, ∀ u, ev T x = some u → VR E u (a.eval x) := by
  intro x hx u hu
  unfold ev at hu
  split at hu
  · rename_i t
    have hmem : t ∈ o.looksAt ops := by
      unfold Oper.looksAt
      exact List.mem_append_left _ (List.mem_filterMap.2 ⟨.tmp t, hx, rfl⟩)
    obtain ⟨z, hz, hr⟩ := hs t hmem u hu
    simpa [Act.eval, Array.getD_eq_getD_getElem?, hz] using hr
  · exact cv_rel E hu
  · exact VR.mono (Ext.ofIce E) _ _ (pr.gl _ _ hu)
  · cases hu
    simp only [VR, Act.eval]
    exact ⟨#[], #[], rfl, ⟨VRP.nil, rfl⟩, VRP.nil, rfl⟩

theorem put_of {nt : Nat} {T T1 : Tm} {dst : Option Tmp} {v : AV} (h : putA nt T dst v = some T1) : (∀ d, dst = some d → d < nt) ∧ ∀ t, T1.get t = if dst = some t then some v else T.get t := by
  unfold putA at h
  split at h
  · cases h; exact ⟨(fun d hd => by cases hd), (fun t => by simp)⟩
  · rename_i d
    simp only [o2_eq, on3_eq, ob_some, chk_some, nblt_iff, Option.some.injEq] at h
    obtain ⟨_, hd, rfl⟩ := h
    refine ⟨fun d' hd' => by cases hd'; exact hd, fun t => ?_⟩
    rw [Tr.get_put]
    by_cases e : t = d
    · subst e; simp
    · rw [if_neg e, if_neg (by simpa using Ne.symm e)]

/-- what a reading operation asks of memory -/
def ReadPre (P : Program) (pol : FuncId → Bool) (rec : RunT) (o : Op) (T : Tm) (v : AV) (m : Nat) (K : Nat → Option AB) : Prop :=
  ∃ H : Tr AB, (∀ n, H.get n = if n ∈ foot T o then K n else none) ∧ (aOp pol P o).f rec T ⟨H, m⟩ = some (v, ⟨H, m⟩)

inductive Kind (P : Program) (pol : FuncId → Bool) (rec : RunT) (e : Ent) (c : Cls) (hide : List Nat) (lg : Bool) (log log1 : List LE) : Prop where
  | none : (∀ n, ¬ touch e n) → (∀ K, e.pre K) → Kind P pol rec e c hide lg log log1
  | read (T : Tm) (m : Nat) : c = .read → cls pol e.o.op = .read → (∀ n, ¬ touch e n) → (∀ K, e.pre K ↔ ReadPre P pol rec e.o.op T e.v m K) → (∀ n ∈ foot T e.o.op, n ∉ logged log hide) →
      (lg = true → ⟨e.i, foot T e.o.op, some (reOf P e.o.op T (foot T e.o.op) m e.v)⟩ ∈ log1) → Kind P pol rec e c hide lg log log1
  | blk (ns : List Nat) : (c = .alloc ∨ c = .loc) → (∀ K, e.pre K) → (∀ n, touch e n → n ∈ ns) → (c = .alloc → ∀ n ∈ ns, n < e.y) → (∀ n ∈ ns, e.x ≤ n ∨ (c = .loc ∧ n ∉ logged log hide)) → (∀ q ∈ log, q.i ∈ hide → ∀ n ∈ q.ns, n < e.x) →
      (c = .loc → ∃ h : Tr AB, reads log hide h = true ∧ ∀ n, touch e n → h.get n = e.R' n) → (lg = true → ⟨e.i, ns, none⟩ ∈ log1) → Kind P pol rec e c hide lg log log1
  | write : c = .write → (∀ K, e.pre K) → (∀ n, touch e n → n ∉ logged log hide) → (∃ h : Tr AB, reads log hide h = true ∧ ∀ n, touch e n → h.get n = e.R' n) → Kind P pol rec e c hide lg log log1

structure EX where
  e : Ent
  c : Cls
  hide : List Nat
  lg : Bool
  log : List LE
  log1 : List LE

theorem mem_logged {log : List LE} {hide : List Nat} {c n : Nat} {ns : List Nat} (h : (⟨c, ns, none⟩ : LE) ∈ log) (hc : c ∈ hide) (hn : n ∈ ns) : n ∈ logged log hide := by
  unfold logged
  rw [List.mem_flatMap]
  exact ⟨⟨c, ns, none⟩, List.mem_filter.2 ⟨h, by simpa using hc⟩, hn⟩

theorem merge_none {K R R' : Nat → Option AB} (h : ∀ n, ¬ ((R n).isSome = true ∨ (R' n).isSome = true)) : merge K R R' = K := by
  funext n; rw [merge_not (h n)]

/-- what was read is read again behind a step that has been looked after -/
theorem read_again {c : EX} {T : Tm} {m : Nat} {e : Ent} {log : List LE} {hide : List Nat} (hp : ∀ K, c.e.pre K ↔ ReadPre P pol rec c.e.o.op T c.e.v m K) (hcls : cls pol c.e.o.op = .read)
    (hle : (⟨c.e.i, foot T c.e.o.op, some (reOf P c.e.o.op T (foot T c.e.o.op) m c.e.v)⟩ : LE) ∈ log) (hin : c.e.i ∈ hide) (hr : ∃ h : Tr AB, reads log hide h = true ∧ ∀ n, touch e n → h.get n = e.R' n)
    (K : Nat → Option AB) (hK : c.e.pre K) : c.e.pre (merge K e.R e.R') := by
  rw [hp] at hK ⊢
  obtain ⟨h, hre, hget⟩ := hr
  have hre1 : reOf P c.e.o.op T (foot T c.e.o.op) m c.e.v h = true := by
    unfold reads at hre
    rw [List.all_eq_true] at hre
    have := hre _ hle
    simp only [Bool.or_eq_true, Bool.not_eq_true'] at this
    rcases this with h1 | h1
    · simp [hin] at h1
    · exact h1
  unfold reOf at hre1
  rcases foot_one T c.e.o.op with hf | ⟨n, hf⟩
  · obtain ⟨H, h1, h2⟩ := hK
    exact ⟨H, fun k => by rw [h1 k]; simp [hf], h2⟩
  · by_cases ht : touch e n
    · split at hre1
      · rename_i u S1 hrun
        rw [← read_rec (rec := rec) hcls (fun _ => false) (fun _ _ _ _ => none)] at hrun
        have hu := same_sames.1 _ _ hre1
        subst hu
        obtain ⟨rfl, _⟩ := read_congr (H' := restrict h (foot T c.e.o.op)) (m' := m) hcls hrun (fun _ _ => rfl)
        refine ⟨restrict h (foot T c.e.o.op), fun k => ?_, hrun⟩
        rw [restrict_get, hf]
        by_cases hk : k ∈ [n]
        · rw [if_pos hk, if_pos hk]
          have : k = n := by simpa using hk
          subst this
          rw [merge_touch ht, hget k ht]
        · rw [if_neg hk, if_neg hk]
      · cases hre1
    · obtain ⟨H, h1, h2⟩ := hK
      refine ⟨H, fun k => ?_, h2⟩
      rw [h1 k, hf]
      by_cases hk : k ∈ [n]
      · rw [if_pos hk, if_pos hk]
        have : k = n := by simpa using hk
        subst this
        rw [merge_not ht]
      · rw [if_neg hk, if_neg hk]

/-- two operations of a plan that no edge orders do not disturb each other -/
theorem indep_of {bs : List Nat} {c e : EX} (hc : ops[c.e.i]? = some c.e.o) (he : ops[e.e.i]? = some e.e.o) (kc : Kind P pol rec c.e c.c c.hide c.lg c.log c.log1) (ke : Kind P pol rec e.e e.c e.hide e.lg e.log e.log1)
    (hlog : ∀ q ∈ c.log1, q ∈ e.log) (hwr' : e.c = .pure ∨ e.c = .pcall → ∀ n, ¬ touch e.e n)
    (hpe : e.c = .pure ∨ e.c = .pcall → ∀ K, e.e.pre K)
    (hxy : c.e.y ≤ e.e.x) (hp : pairOk ops.toList bs ⟨c.e.i, c.hide, c.lg, c.c⟩ ⟨e.e.i, e.hide, e.lg, e.c⟩ = true) (hb : (bs.getD e.e.i 0).testBit c.e.i = false) : Indep ops c.e e.e := by
  unfold pairOk at hp
  simp only at hp
  rw [hb, Bool.false_or] at hp
  have h1 : ops.toList[c.e.i]? = some c.e.o := by simpa using hc
  have h2 : ops.toList[e.e.i]? = some e.e.o := by simpa using he
  rw [h1, h2] at hp
  simp only [Bool.and_eq_true] at hp
  obtain ⟨hap, hpair⟩ := hp
  have hap' : c.e.o.apart ops e.e.o = true := by simpa using hap
  have noneC : (∀ n, ¬ touch c.e n) → (∀ K, c.e.pre K) → Indep ops c.e e.e := fun ht hpre =>
    ⟨hap', fun n tc _ => absurd tc (ht n), fun K _ => hpre _, fun K h => by rw [merge_none (fun n => ht n)] at h; exact h⟩
  have noneE : (∀ n, ¬ touch e.e n) → (∀ K, e.e.pre K) → Indep ops c.e e.e := fun ht hpre =>
    ⟨hap', fun n _ te => absurd te (ht n), fun K h => by rw [merge_none (fun n => ht n)]; exact h, fun K _ => hpre _⟩
  have inHide : pairC c.c e.c = some true → c.e.i ∈ e.hide ∧ c.lg = true := fun h => by
    rw [h] at hpair; simpa using hpair
  cases kc with
  | none ht hpre => exact noneC ht hpre
  | read T m hcm hcls ht hpre hfoot hle =>
    cases ke with
    | none ht' hpre' => exact noneE ht' hpre'
    | read T' m' hcm' hcls' ht' hpre' hfoot' hle' =>
      exact ⟨hap', fun n tc _ => absurd tc (ht n), fun K h => by rw [merge_none (fun n => ht' n)]; exact h, fun K h => by rw [merge_none (fun n => ht n)] at h; exact h⟩
    | blk ns hk hpre' hns hny hx hall hre hle' =>
      obtain ⟨hin, hlg⟩ := inHide (by rcases hk with hk | hk <;> rw [hcm, hk] <;> rfl)
      refine ⟨hap', fun n tc _ => absurd tc (ht n), fun K hK => ?_, fun K _ => hpre' _⟩
      rcases hk with hk | hk
      · -- a new block
        rw [hpre] at hK ⊢
        obtain ⟨H, a1, a2⟩ := hK
        refine ⟨H, fun k => ?_, a2⟩
        rw [a1 k]
        by_cases hkf : k ∈ foot T c.e.o.op
        · rw [if_pos hkf, if_pos hkf]
          have hlt := hall _ (hlog _ (hle hlg)) hin k hkf
          rw [merge_not]
          intro ht2
          rcases hx k (hns k ht2) with h | ⟨h, _⟩
          · omega
          · rw [hk] at h; cases h
        · rw [if_neg hkf, if_neg hkf]
      · exact read_again hpre hcls (hlog _ (hle hlg)) hin (hre hk) K hK
    | write hk hpre' hx hre =>
      obtain ⟨hin, hlg⟩ := inHide (by rw [hcm, hk]; rfl)
      exact ⟨hap', fun n tc _ => absurd tc (ht n), fun K hK => read_again hpre hcls (hlog _ (hle hlg)) hin hre K hK, fun K _ => hpre' _⟩
  | blk ns hk hpre hns hny hx hall hre hle =>
    cases ke with
    | none ht' hpre' => exact noneE ht' hpre'
    | read T' m' hcm' hcls' ht' hpre' hfoot' hle' =>
      refine ⟨hap', fun n _ te => absurd te (ht' n), fun K _ => hpre _, fun K hK => ?_⟩
      obtain ⟨hin, hlg⟩ := inHide (by rcases hk with hk | hk <;> rw [hk, hcm'] <;> rfl)
      rw [hpre'] at hK ⊢
      obtain ⟨H, a1, a2⟩ := hK
      refine ⟨H, fun k => ?_, a2⟩
      rw [a1 k]
      by_cases hkf : k ∈ foot T' e.e.o.op
      · rw [if_pos hkf, if_pos hkf, merge_not]
        intro htk
        exact hfoot' k hkf (mem_logged (hlog _ (hle hlg)) hin (hns k htk))
      · rw [if_neg hkf, if_neg hkf]
    | blk ns' hk' hpre' hns' hny' hx' hall' hre' hle' =>
      refine ⟨hap', fun n tc te => ?_, fun K _ => hpre _, fun K _ => hpre' _⟩
      exfalso
      by_cases hboth : c.c = .alloc ∧ e.c = .alloc
      · have h1 := hny hboth.1 n (hns n tc)
        rcases hx' n (hns' n te) with h | ⟨hloc, h⟩
        · omega
        · rw [hboth.2] at hloc; cases hloc
      · obtain ⟨hin, hlg⟩ := inHide (by
          rcases hk with hk | hk <;> rcases hk' with hk' | hk'
          · exact absurd ⟨hk, hk'⟩ hboth
          · rw [hk, hk']; rfl
          · rw [hk, hk']; rfl
          · rw [hk, hk']; rfl)
        have hmem := hlog _ (hle hlg)
        have hlt : n < e.e.x := hall' _ hmem hin n (hns n tc)
        rcases hx' n (hns' n te) with h | ⟨hloc, h⟩
        · omega
        · exact h (mem_logged hmem hin (hns n tc))
    | write hk' hpre' hx' hre' =>
      refine ⟨hap', fun n tc te => ?_, fun K _ => hpre _, fun K _ => hpre' _⟩
      exfalso
      obtain ⟨hin, hlg⟩ := inHide (by rcases hk with hk | hk <;> rw [hk, hk'] <;> rfl)
      exact hx' n te (mem_logged (hlog _ (hle hlg)) hin (hns n tc))
  | write hk hpre hx hre =>
    have : e.c = .pure ∨ e.c = .pcall := by
      rw [hk] at hpair
      cases hce : e.c <;> rw [hce] at hpair <;> first | exact .inl rfl | exact .inr rfl | (simp [pairC] at hpair)
    exact noneE (hwr' this) (hpe this)

theorem note_sub {lg : Bool} {e : LE} {log : List LE} : ∀ q ∈ log, q ∈ note lg e log := by
  intro q hq
  cases lg <;> simp [note, hq]
theorem note_mem {e : LE} {log : List LE} {lg : Bool} (h : lg = true) : e ∈ note lg e log := by subst h; simp [note]

def PC (P : Program) (pol : FuncId → Bool) (rec : RunT) (ops : Array Oper) (nt : Nat) (l : List PS) (log : List LE) (T : Tm) (S : St) (T' : Tm) (S' : St) : Prop :=
    ∃ L : List EX, Chain ops (L.map (·.e)) T.get S.heap.get T'.get S'.heap.get ∧ L.map (fun x => (⟨x.e.i, x.hide, x.lg, x.c⟩ : PS)) = l ∧ (∀ x ∈ L, EntOk P ops nt x.e) ∧ (∀ x ∈ L, Kind P pol rec x.e x.c x.hide x.lg x.log x.log1) ∧
      (∀ x ∈ L, S.next ≤ x.e.x ∧ x.e.y ≤ S'.next) ∧ (∀ x ∈ L, ∀ q ∈ log, q ∈ x.log) ∧ L.Pairwise (fun c e => c.e.y ≤ e.e.x ∧ ∀ q ∈ c.log1, q ∈ e.log) ∧
      (∀ x ∈ L, x.c = .pure ∨ x.c = .pcall → (∀ n, ¬ touch x.e n) ∧ ∀ K, x.e.pre K) ∧ S.next ≤ S'.next

theorem lay_get (old h : Tr AB) : ∀ (ns : List Nat) (n : Nat), (lay old h ns).get n = if n ∈ ns ∧ (old.get n).isSome = true then old.get n else h.get n
  | [], n => by simp [lay]
  | m :: ns, n => by
    unfold lay
    split
    · rename_i b hb
      rw [Tr.get_put, lay_get old h ns n]
      by_cases e : n = m
      · subst e; simp [hb]
      · simp [e]
    · rename_i hb
      rw [lay_get old h ns n]
      by_cases e : n = m
      · subst e; simp [hb]
      · simp [e]

theorem names_mem {x y n : Nat} (h : x ≤ y) : n ∈ names x y ↔ x ≤ n ∧ n < y := by
  unfold names
  rw [List.mem_range'_1]
  omega

/-- the chain of a plan -/
theorem plan_chain (hx : MxOk P) (hs : StepOk P pol rec) {nt : Nat} {T' : Tm} {S' : St} : ∀ {l : List PS} {log : List LE} {T : Tm} {S : St}, (∀ p ∈ l, ∀ o, ops[p.i]? = some o → modeOk (cls pol o.op) p.c = true) → (planA pol P ops.toList l).f rec nt log T S = some (T', S') →
    PC P pol rec ops nt l log T S T' S'
  | [], log, T, S, _, h => by
    simp only [planA, Option.some.injEq, Prod.mk.injEq] at h
    obtain ⟨rfl, rfl⟩ := h
    exact ⟨[], ⟨rfl, rfl⟩, rfl, by simp, by simp, by simp, by simp, List.Pairwise.nil, by simp, Nat.le_refl _⟩
  | p :: l, log, T, S, hmo, h => by
    -- one entry in front of the rest
    have step : ∀ (e : Ent) (log1 : List LE) (T1 : Tm) (S1 : St), (planA pol P ops.toList l).f rec nt log1 T1 S1 = some (T', S') → e.i = p.i → e.T = T.get → EntOk P ops nt e → Kind P pol rec e p.c p.hide p.lg log log1 →
        S.next ≤ e.x → e.y ≤ S1.next → (∀ q ∈ log, q ∈ log1) → (∀ n b, e.R n = some b → S.heap.get n = some b) → e.pre S.heap.get → (p.c = .pure ∨ p.c = .pcall → (∀ n, ¬ touch e n) ∧ ∀ K, e.pre K) →
        updT T.get e = T1.get → merge S.heap.get e.R e.R' = S1.heap.get → PC P pol rec ops nt (p :: l) log T S T' S' := by
      intro e log1 T1 S1 hrest hi hT hok hk hx' hy hlog hsub hpre hpp hut hm
      obtain ⟨L, c1, c2, c3, c4, c5, c6, c7, c8, c9⟩ := plan_chain hx hs (fun q hq => hmo q (List.mem_cons_of_mem _ hq)) hrest
      have hle := hok.le
      refine ⟨⟨e, p.c, p.hide, p.lg, log, log1⟩ :: L, ⟨fun t _ => by rw [hT], hsub, hpre, by rw [hut, hm]; exact c1⟩, by simp [c2, hi], ?_, ?_, ?_, ?_, ?_, ?_, by omega⟩
      · intro x hx'
        rcases List.mem_cons.1 hx' with rfl | hx'
        · exact hok
        · exact c3 x hx'
      · intro x hx'
        rcases List.mem_cons.1 hx' with rfl | hx'
        · exact hk
        · exact c4 x hx'
      · intro x hx''
        rcases List.mem_cons.1 hx'' with rfl | hx''
        · exact ⟨hx', by simp only; omega⟩
        · have := c5 x hx''; omega
      · intro x hx' q hq
        rcases List.mem_cons.1 hx' with rfl | hx'
        · exact hq
        · exact c6 x hx' q (hlog q hq)
      · refine List.pairwise_cons.2 ⟨fun x hx' => ⟨?_, fun q hq => c6 x hx' _ hq⟩, c7⟩
        have := c5 x hx'
        simp only; omega
      · intro x hx'
        rcases List.mem_cons.1 hx' with rfl | hx'
        · exact hpp
        · exact c8 x hx'
    have none_touch : ∀ (i : Nat) (o : Oper) (T : Nat → Option AV) (b : Bool) (x y : Nat) (v : AV) (pre : (Nat → Option AB) → Prop), ∀ n, ¬ touch ⟨i, o, T, b, fun _ => none, fun _ => none, x, y, v, pre⟩ n := by
      intro i o T b x y v pre n ht
      rcases ht with h | h <;> simp at h
    have none_merge' : ∀ K : Nat → Option AB, merge K (fun _ => none) (fun _ => none) = K := by
      intro K; funext n; rw [merge_not (by simp)]
    have upd : ∀ (o : Oper) (v : AV) (T1 : Tm), putA nt T o.dst v = some T1 → ∀ (i : Nat) (Tf : Nat → Option AV) (b : Bool) (R R' : Nat → Option AB) (x y : Nat) (pre : (Nat → Option AB) → Prop), updT T.get ⟨i, o, Tf, b, R, R', x, y, v, pre⟩ = T1.get := by
      intro o v T1 hput i Tf b R R' x y pre
      funext t
      rw [(put_of hput).2 t]; rfl
    -- an operation that is not wanted
    have unwanted : ∀ o, ops[p.i]? = some o → wantA ops.toList T o = some false → ∀ T1, putA nt T o.dst (.tup []) = some T1 → (planA pol P ops.toList l).f rec nt log T1 S = some (T', S') → PC P pol rec ops nt (p :: l) log T S T' S' := by
      intro o ho hw T1 hput hrest
      exact step ⟨p.i, o, T.get, false, fun _ => none, fun _ => none, S.next, S.next, .tup [], fun _ => True⟩ log T1 S hrest rfl rfl
        ⟨ho, (put_of hput).1, Nat.le_refl _, fun E a hsr => wants_of (nt := nt) hw E a hsr, fun _ => ⟨rfl, fun _ => rfl, fun _ => rfl⟩, fun h => by cases h⟩
        (.none (none_touch _ _ _ _ _ _ _ _) (fun _ => trivial)) (Nat.le_refl _) (Nat.le_refl _) (fun q hq => hq) (fun n b hb => by cases hb) trivial (fun _ => ⟨none_touch _ _ _ _ _ _ _ _, fun _ => trivial⟩) (upd _ _ _ hput _ _ _ _ _ _ _ _) (none_merge' _)
    unfold planA at h
    split at h
    · cases h
    · rename_i o ho
      have ho' : ops[p.i]? = some o := by simpa using ho
      have hmode := hmo p (List.mem_cons_self ..) o ho'
      -- an operation that looks at no memory and leaves it alone
      have quiet : ∀ v, wantA ops.toList T o = some true → (aOp pol P o.op).f rec T ⟨.lf, S.next⟩ = some (v, ⟨.lf, S.next⟩) → ∀ T1, putA nt T o.dst v = some T1 → (planA pol P ops.toList l).f rec nt log T1 S = some (T', S') → PC P pol rec ops nt (p :: l) log T S T' S' := by
        intro v hb h1 T1 hput h
        refine step ⟨p.i, o, T.get, true, fun _ => none, fun _ => none, S.next, S.next, v, fun _ => True⟩ log T1 S h rfl rfl ⟨ho', (put_of hput).1, Nat.le_refl _, fun E a hsr => wants_of (nt := nt) hb E a hsr, (fun h => by cases h), ?_⟩
          (.none (none_touch _ _ _ _ _ _ _ _) (fun _ => trivial)) (Nat.le_refl _) (Nat.le_refl _) (fun q hq => hq) (fun n b hb => by cases hb) trivial (fun _ => ⟨none_touch _ _ _ _ _ _ _ _, fun _ => trivial⟩) (upd _ _ _ hput _ _ _ _ _ _ _ _) (none_merge' _)
        intro _ E a w K hsr hr _ _ pr hfr next Q hn
        refine hs h1 (operands_of hsr pr) (HR.empty E w) pr (fun n a b => by simp only at a b; omega) ?_
        intro v' w' E' hv tr
        refine hn v' w' E' hv ?_
        have e : (Tr.lf : Tr AB).get = fun _ => none := by funext n; simp
        simp only [e] at tr
        exact tr
      split at h
      · -- pure
        simp only at h
        rename_i hpc
        have hcls : cls pol o.op = .pure := by rw [hpc] at hmode; cases hq : cls pol o.op <;> rw [hq] at hmode <;> first | rfl | cases hmode
        rw [ob_some] at h
        obtain ⟨b, hb, h⟩ := h
        cases b
        · rw [bc_false, ob_some] at h
          obtain ⟨T1, hput, h⟩ := h
          exact unwanted o ho' hb T1 hput h
        · rw [bc_true] at h
          simp only [o2_eq, on3_eq, ob_some] at h
          obtain ⟨⟨v, S1⟩, h1, T1, hput, h⟩ := h
          exact quiet v hb (pure_local hcls h1 S.next).2 T1 hput h
      · -- pcall
        simp only at h
        rename_i hpc
        rw [ob_some] at h
        obtain ⟨b, hb, h⟩ := h
        cases b
        · rw [bc_false, ob_some] at h
          obtain ⟨T1, hput, h⟩ := h
          exact unwanted o ho' hb T1 hput h
        · rw [bc_true] at h
          simp only [o2_eq, on3_eq, ob_some, chk_some, nbeq_iff] at h
          obtain ⟨⟨v, S1⟩, h1, _, hnx, T1, hput, h⟩ := h
          refine step ⟨p.i, o, T.get, true, fun _ => none, fun _ => none, S.next, S.next, v, fun _ => True⟩ log T1 S h rfl rfl ⟨ho', (put_of hput).1, Nat.le_refl _, fun E a hsr => wants_of (nt := nt) hb E a hsr, (fun h => by cases h), ?_⟩
            (.none (none_touch _ _ _ _ _ _ _ _) (fun _ => trivial)) (Nat.le_refl _) (Nat.le_refl _) (fun q hq => hq) (fun n b hb => by cases hb) trivial (fun _ => ⟨none_touch _ _ _ _ _ _ _ _, fun _ => trivial⟩) (upd _ _ _ hput _ _ _ _ _ _ _ _) (none_merge' _)
          intro _ E a w K hsr hr _ _ pr hfr next Q hn
          have hnx' : S1.next = S.next := hnx
          refine hs h1 (operands_of hsr pr) (HR.empty E w) pr (fun n a b => by simp only at a b; omega) ?_
          intro v' w' E' hv tr
          refine hn v' w' E' hv ?_
          have := tr.forget (h'' := fun _ => none) (fun n b hb => by cases hb)
          have e : (Tr.lf : Tr AB).get = fun _ => none := by funext n; simp
          simp only [hnx', e] at this
          exact this
      · -- read
        simp only at h
        rename_i hpc
        have hcls : cls pol o.op = .read := by rw [hpc] at hmode; cases hq : cls pol o.op <;> rw [hq] at hmode <;> first | rfl | cases hmode
        rw [ob_some] at h
        obtain ⟨b, hb, h⟩ := h
        cases b
        · rw [bc_false, ob_some] at h
          obtain ⟨T1, hput, h⟩ := h
          exact unwanted o ho' hb T1 hput h
        · rw [bc_true] at h
          simp only [o2_eq, on3_eq, ob_some, chk_some] at h
          obtain ⟨_, hfoot, ⟨v, S1⟩, h1, T1, hput, h⟩ := h
          have hpre : ReadPre P pol rec o.op T v S.next S.heap.get :=
            ⟨restrict S.heap (foot T o.op), fun n => restrict_get _ _ _, (read_congr (H := S.heap) (m := S.next) hcls h1 (fun n hn => by rw [restrict_get, if_pos hn])).2⟩
          refine step ⟨p.i, o, T.get, true, fun _ => none, fun _ => none, S.next, S.next, v, ReadPre P pol rec o.op T v S.next⟩ _ T1 S h rfl rfl
            ⟨ho', (put_of hput).1, Nat.le_refl _, fun E a hsr => wants_of (nt := nt) hb E a hsr, (fun h => by cases h), ?_⟩ (.read T S.next hpc hcls (none_touch _ _ _ _ _ _ _ _) (fun K => Iff.rfl) ?_ (fun hlg => note_mem hlg)) (Nat.le_refl _) (Nat.le_refl _) note_sub
            (fun n b hb => by cases hb) hpre (fun hc => by simp only [hpc] at hc; rcases hc with hc | hc <;> cases hc) (upd _ _ _ hput _ _ _ _ _ _ _ _) (none_merge' _)
          · intro _ E a w K hsr hr hpreK _ pr hfr next Q hn
            obtain ⟨H, hH, hrun⟩ := hpreK
            have hrH : HR E H.get w := hr.weaken fun n b hb => by
              rw [hH n] at hb
              split at hb
              · exact hb
              · cases hb
            refine readSim hcls hrun (operands_of hsr pr) hrH pr fun v' hv => hn v' w E hv (Tran.refl _ ?_ pr)
            have e : (Tr.lf : Tr AB).get = fun _ => none := by funext n; simp
            have := HR.empty E w
            simp only [e] at this
            exact this
          · intro n hn hl
            simp only [List.all_eq_true, Bool.not_eq_true'] at hfoot
            have := hfoot n hn
            simp [hl] at this
      · -- alloc
        simp only at h
        rename_i hpc
        have hcls : cls pol o.op = .alloc := by rw [hpc] at hmode; cases hq : cls pol o.op <;> rw [hq] at hmode <;> first | rfl | cases hmode
        rw [ob_some] at h
        obtain ⟨b, hb, h⟩ := h
        cases b
        · rw [bc_false, ob_some] at h
          obtain ⟨T1, hput, h⟩ := h
          exact unwanted o ho' hb T1 hput h
        · rw [bc_true] at h
          simp only [o2_eq, on3_eq, ob_some, chk_some] at h
          obtain ⟨_, hall, ⟨v, S1⟩, h1, T1, hput, h⟩ := h
          rw [Bool.and_eq_true, Bool.not_eq_true'] at hall
          obtain ⟨hbt, hall⟩ := hall
          obtain ⟨blk, rfl, h2⟩ := alloc_local hcls hbt h1
          refine step ⟨p.i, o, T.get, true, fun _ => none, fun n => if n = S.next then some blk else none, S.next, S.next + 1, v, fun _ => True⟩ _ T1 (newB S blk) h rfl rfl
            ⟨ho', (put_of hput).1, Nat.le_succ _, fun E a hsr => wants_of (nt := nt) hb E a hsr, (fun h => by cases h), ?_⟩ (.blk [S.next] (.inl hpc) (fun _ => trivial) ?_ (fun _ n hn => Nat.lt_succ_of_le (Nat.le_of_eq (by simpa using hn))) ?_ ?_ (fun hc => by simp only [hpc] at hc; cases hc) (fun hlg => note_mem hlg)) (Nat.le_refl _) (Nat.le_refl _) note_sub
            (fun n b hb => by cases hb) trivial (fun hc => by simp only [hpc] at hc; rcases hc with hc | hc <;> cases hc) (upd _ _ _ hput _ _ _ _ _ _ _ _) ?_
          · intro _ E a w K hsr hr _ _ pr hfr next Q hn
            refine hs h2 (operands_of hsr pr) (HR.empty E w) pr (fun n a b => hfr n a b) ?_
            intro v' w' E' hv tr
            refine hn v' w' E' hv ?_
            have := tr.forget (h'' := fun n => if n = S.next then some blk else none) (fun n b hb => by
              by_cases e : n = S.next
              · subst e; rw [if_pos rfl] at hb; cases hb; simp [newB]
              · rw [if_neg e] at hb; cases hb)
            have e : (Tr.lf : Tr AB).get = fun _ => none := by funext n; simp
            simp only [e] at this
            exact this
          · intro n ht
            rcases ht with h | h
            · simp at h
            · simp only at h
              by_cases e : n = S.next
              · simp [e]
              · rw [if_neg e] at h; cases h
          · intro n hn
            left
            have : n = S.next := by simpa using hn
            simp only; omega
          · intro q hq hqi n hn
            unfold old at hall
            simp only [List.all_eq_true, Bool.or_eq_true, Bool.not_eq_true', nblt_iff] at hall
            rcases hall q hq with h | h
            · simp [hqi] at h
            · exact h n hn
          · funext n
            simp only [newB, Tr.get_put]
            by_cases e : n = S.next
            · subst e
              rw [merge_touch (by simp)]; simp
            · rw [merge_not (by simp [e]), if_neg e]
      · -- loc
        simp only at h
        rename_i hcls
        have hpc := hcls
        rw [ob_some] at h
        obtain ⟨b, hb, h⟩ := h
        cases b
        · rw [bc_false, ob_some] at h
          obtain ⟨T1, hput, h⟩ := h
          exact unwanted o ho' hb T1 hput h
        · rw [bc_true] at h
          simp only [o2_eq, on3_eq, ob_some, chk_some, nble_iff, Bool.and_eq_true] at h
          obtain ⟨_, ⟨hall, hfoot⟩, ⟨v, S1⟩, h1, _, hnx, _, hre, T1, hput, h⟩ := h
          have hnx' : S.next ≤ S1.next := hnx
          refine step ⟨p.i, o, T.get, true, (restrict S.heap (footL T o.op)).get, fun n => if n ∈ footL T o.op ++ names S.next S1.next then S1.heap.get n else none, S.next, S1.next, v, fun _ => True⟩ _ T1 ⟨lay S1.heap (back S1.heap S.heap (footL T o.op)) (names S.next S1.next), S1.next⟩ h rfl rfl
            ⟨ho', (put_of hput).1, hnx', fun E a hsr => wants_of (nt := nt) hb E a hsr, (fun h => by cases h), ?_⟩ (.blk (footL T o.op ++ names S.next S1.next) (.inr hcls) (fun _ => trivial) ?_ (fun hc => by simp only [hpc] at hc; cases hc) ?_ ?_ (fun _ => ⟨_, hre, ?_⟩) (fun hlg => note_mem hlg)) (Nat.le_refl _) (Nat.le_refl _) note_sub
            ?_ trivial (fun hc => by simp only [hpc] at hc; rcases hc with hc | hc <;> cases hc) (upd _ _ _ hput _ _ _ _ _ _ _ _) ?_
          · intro _ E a w K hsr hr _ hsub pr hfr next Q hn
            refine hs h1 (operands_of hsr pr) (hr.weaken hsub) pr hfr ?_
            intro v' w' E' hv tr
            refine hn v' w' E' hv (tr.forget fun n b hb => ?_)
            have hb : (if n ∈ footL T o.op ++ names S.next S1.next then S1.heap.get n else none) = some b := hb
            split at hb
            · exact hb
            · cases hb
          · intro n ht
            rcases ht with h | h
            · simp only [restrict_get] at h
              by_cases e : n ∈ footL T o.op
              · simp [e]
              · rw [if_neg e] at h; cases h
            · simp only at h
              by_cases e : n ∈ footL T o.op ++ names S.next S1.next
              · exact e
              · rw [if_neg e] at h; cases h
          · intro n hn
            rcases List.mem_append.1 hn with hn | hn
            · right
              refine ⟨hcls, fun hl => ?_⟩
              simp only [List.all_eq_true, Bool.not_eq_true'] at hfoot
              have := hfoot n hn
              simp [hl] at this
            · left; exact ((names_mem hnx').1 hn).1
          · intro q hq hqi n hn
            unfold old at hall
            simp only [List.all_eq_true, Bool.or_eq_true, Bool.not_eq_true', nblt_iff] at hall
            rcases hall q hq with h | h
            · simp [hqi] at h
            · exact h n hn
          · intro n ht
            have hin : n ∈ footL T o.op ++ names S.next S1.next := by
              rcases ht with h | h
              · simp only [restrict_get] at h
                by_cases e : n ∈ footL T o.op
                · simp [e]
                · rw [if_neg e] at h; cases h
              · simp only at h
                by_cases e : n ∈ footL T o.op ++ names S.next S1.next
                · exact e
                · rw [if_neg e] at h; cases h
            have key : (lay S1.heap (back S1.heap S.heap (footL T o.op)) (names S.next S1.next)).get n = S1.heap.get n := by
              rw [lay_get, back_get]
              by_cases e1 : n ∈ names S.next S1.next ∧ (S1.heap.get n).isSome = true
              · rw [if_pos e1]
              · rw [if_neg e1]
                by_cases e2 : n ∈ footL T o.op
                · rw [if_pos e2]
                · exfalso
                  have hn : n ∈ names S.next S1.next := (List.mem_append.1 hin).resolve_left e2
                  rcases ht with h | h
                  · simp only [restrict_get, if_neg e2] at h; cases h
                  · simp only [if_pos hin] at h; exact e1 ⟨hn, h⟩
            simp only [key, if_pos hin]
          · intro n b hb
            simp only [restrict_get] at hb
            split at hb
            · exact hb
            · cases hb
          · funext n
            simp only [lay_get, back_get]
            by_cases ht : ((restrict S.heap (footL T o.op)).get n).isSome = true ∨ ((if n ∈ footL T o.op ++ names S.next S1.next then S1.heap.get n else none : Option AB)).isSome = true
            · rw [merge_touch ht]
              by_cases e2 : n ∈ footL T o.op
              · rw [if_pos (List.mem_append_left _ e2), if_pos e2]; split <;> rfl
              · rcases ht with h | h
                · rw [restrict_get, if_neg e2] at h; cases h
                · by_cases hin : n ∈ footL T o.op ++ names S.next S1.next
                  · rw [if_pos hin] at h ⊢
                    rw [if_pos ⟨(List.mem_append.1 hin).resolve_left e2, h⟩]
                  · rw [if_neg hin] at h; cases h
            · rw [merge_not ht]
              simp only [not_or, Bool.not_eq_true, Option.isSome_eq_false_iff, Option.isNone_iff_eq_none, restrict_get] at ht
              by_cases e2 : n ∈ footL T o.op
              · rw [if_pos (List.mem_append_left _ e2), if_pos e2] at ht
                rw [if_neg (by rw [ht.2]; simp), if_pos e2, ht.1, ht.2]
              · by_cases hin : n ∈ footL T o.op ++ names S.next S1.next
                · rw [if_pos hin] at ht
                  rw [if_neg (by rw [ht.2]; simp), if_neg e2]
                · rw [if_neg (fun h => hin (List.mem_append_right _ h.1)), if_neg e2]
      · -- write
        simp only at h
        rename_i hcls
        have hpc := hcls
        rw [ob_some] at h
        obtain ⟨b, hb, h⟩ := h
        cases b
        · rw [bc_false, ob_some] at h
          obtain ⟨T1, hput, h⟩ := h
          exact unwanted o ho' hb T1 hput h
        · rw [bc_true] at h
          simp only [o2_eq, on3_eq, ob_some, chk_some, nble_iff] at h
          obtain ⟨⟨v, S1⟩, h1, _, hnx, _, hre, T1, hput, h⟩ := h
          refine step ⟨p.i, o, T.get, true, (dels S.heap (logged log p.hide)).get, fun n => if n ∈ logged log p.hide then none else S1.heap.get n, S.next, S1.next, v, fun _ => True⟩ log T1 ⟨back S.heap S1.heap (logged log p.hide), S1.next⟩ h rfl rfl
            ⟨ho', (put_of hput).1, hnx, fun E a hsr => wants_of (nt := nt) hb E a hsr, (fun h => by cases h), ?_⟩ (.write hcls (fun _ => trivial) ?_ ⟨_, hre, ?_⟩) (Nat.le_refl _) (Nat.le_refl _) (fun q hq => hq) ?_ trivial
            (fun hc => by simp only [hpc] at hc; rcases hc with hc | hc <;> cases hc) (upd _ _ _ hput _ _ _ _ _ _ _ _) ?_
          · intro _ E a w K hsr hr _ hsub pr hfr next Q hn
            refine hs h1 (operands_of hsr pr) (hr.weaken hsub) pr hfr ?_
            intro v' w' E' hv tr
            refine hn v' w' E' hv (tr.forget fun n b hb => ?_)
            have hb : (if n ∈ logged log p.hide then none else S1.heap.get n) = some b := hb
            by_cases e : n ∈ logged log p.hide
            · rw [if_pos e] at hb; cases hb
            · rw [if_neg e] at hb; exact hb
          · intro n ht hl
            rcases ht with h | h
            · simp only [dels_get, if_pos hl] at h; cases h
            · simp only [if_pos hl] at h; cases h
          · intro n ht
            have hl : n ∉ logged log p.hide := by
              intro hl
              rcases ht with h | h
              · simp only [dels_get, if_pos hl] at h; cases h
              · simp only [if_pos hl] at h; cases h
            simp only [back_get, if_neg hl]
          · intro n b hb
            simp only [dels_get] at hb
            split at hb
            · cases hb
            · exact hb
          · funext n
            simp only [back_get]
            by_cases hl : n ∈ logged log p.hide
            · rw [merge_not (by simp [dels_get, hl]), if_pos hl]
            · rw [if_neg hl]
              by_cases ht : ((dels S.heap (logged log p.hide)).get n).isSome = true ∨ ((if n ∈ logged log p.hide then none else S1.heap.get n : Option AB)).isSome = true
              · rw [merge_touch ht, if_neg hl]
              · rw [merge_not ht]
                simp only [dels_get, if_neg hl, not_or, Bool.not_eq_true, Option.isSome_eq_false_iff, Option.isNone_iff_eq_none] at ht
                rw [ht.1, ht.2]

end
end Go.Eng
namespace Go.Eng
set_option linter.unusedSectionVars false
variable [Gl] [Mx]

/-! what the check of a plan says -/
section
variable {ops : Array Oper}

theorem binds_eq (e : Edge) : bindsA e = Region.binds .any e := by
  unfold bindsA Region.binds
  cases e.ground <;> rfl

theorem fold_bits (acc : List Nat) (c : Nat) : ∀ (es : List Edge) (s : Nat), (es.foldl (fun s e => bif bindsA e then s ||| (1 <<< e.on) ||| (acc.getD e.on 0) else s) s).testBit c = true →
    s.testBit c = true ∨ ∃ e ∈ es, bindsA e = true ∧ (e.on = c ∨ (acc.getD e.on 0).testBit c = true)
  | [], s, h => .inl h
  | e :: es, s, h => by
    simp only [List.foldl_cons] at h
    rcases fold_bits acc c es _ h with h | ⟨e', he', hb, hc⟩
    · cases hb : bindsA e
      · rw [hb, cond_false] at h; exact .inl h
      · rw [hb, cond_true] at h
        simp only [Nat.testBit_or, Bool.or_eq_true] at h
        rcases h with (h | h) | h
        · exact .inl h
        · refine .inr ⟨e, by simp, hb, .inl ?_⟩
          rw [Nat.one_shiftLeft, Nat.testBit_two_pow] at h
          simpa using h
        · exact .inr ⟨e, by simp, hb, .inr h⟩
    · exact .inr ⟨e', by simp [he'], hb, hc⟩

theorem befores_dep : ∀ (l : List Oper) (acc : List Nat) (k : Nat), l = ops.toList.drop k → acc.length = k → (∀ i c, (acc.getD i 0).testBit c = true → Dep ops c i) →
    ∀ i c, ((befores l acc).getD i 0).testBit c = true → Dep ops c i
  | [], acc, k, _, _, h, i, c, hb => h i c hb
  | o :: l, acc, k, hl, hk, h, i, c, hb => by
    have hlen : k < ops.size := by
      have := congrArg List.length hl
      simp at this; omega
    have ho : ops[k]? = some o := by
      have := congrArg (·[0]?) hl
      simp at this
      rw [← this]
    have hl' : l = ops.toList.drop (k + 1) := by
      rw [← List.drop_drop, ← hl]; rfl
    unfold befores at hb
    refine befores_dep l _ (k + 1) hl' (by simp [hk]) ?_ i c hb
    intro j d hj
    by_cases e : j < k
    · rw [List.getD_eq_getElem?_getD, List.getElem?_append_left (by omega), ← List.getD_eq_getElem?_getD] at hj
      exact h j d hj
    · by_cases e' : j = k
      · subst e'
        rw [List.getD_eq_getElem?_getD, List.getElem?_append_right (by omega)] at hj
        simp only [hk, Nat.sub_self, List.getElem?_cons_zero, Option.getD_some] at hj
        rcases fold_bits acc d o.after.toList 0 hj with h0 | ⟨ed, hed, hbd, hc⟩
        · simp at h0
        · have hedge : Edge1 ops ed.on j := ⟨o, ho, ed, by simpa using hed, by rw [← binds_eq]; exact hbd, rfl⟩
          rcases hc with rfl | hc
          · exact .one hedge
          · exact .more (h _ _ hc) hedge
      · rw [List.getD_eq_getElem?_getD, List.getElem?_eq_none (by simp; omega)] at hj
        simp at hj

structure PlanFacts (pol : FuncId → Bool) (ops : Array Oper) (bs : List Nat) (done : List PS) (l : List PS) : Prop where
  len : done.length + l.length = ops.size
  all : ∀ i, i < ops.size → i ∈ done.map (·.i) ∨ ∃ p ∈ l, p.i = i
  pw : l.Pairwise (fun c e => c.i ≠ e.i ∧ pairOk ops.toList bs c e = true ∧ ¬ Edge1 ops e.i c.i)
  ndone : ∀ p ∈ l, p.i ∉ done.map (·.i)
  pair : ∀ p ∈ l, ∀ c ∈ done, pairOk ops.toList bs c p = true
  self : ∀ p ∈ l, ¬ Edge1 ops p.i p.i
  lt : ∀ p ∈ l, ∀ d, Edge1 ops d p.i → d < ops.size
  mode : ∀ p ∈ l, ∀ o, ops[p.i]? = some o → modeOk (cls pol o.op) p.c = true

theorem plan_facts {pol : FuncId → Bool} {bs : List Nat} : ∀ {l : List PS} {done : List PS}, planOkB pol ops.toList bs done l = true → (∀ d ∈ done, d.i < ops.size) → PlanFacts pol ops bs done l
  | [], done, h, _ => by
    simp only [planOkB, Bool.and_eq_true, nbeq_iff, List.all_eq_true, List.mem_range] at h
    refine ⟨by simpa using h.1, fun i hi => .inl ?_, List.Pairwise.nil, by simp, by simp, by simp, by simp, by simp⟩
    have := h.2 i (by simpa using hi)
    simpa using this
  | p :: l, done, h, hd => by
    simp only [planOkB, Bool.and_eq_true, nblt_iff] at h
    obtain ⟨⟨⟨⟨hlt, hnd⟩, hed⟩, hpair⟩, hrest⟩ := h
    have hlt' : p.i < ops.size := by simpa using hlt
    have f := plan_facts hrest (by
      intro d hd'
      rcases List.mem_cons.1 hd' with rfl | hd'
      · exact hlt'
      · exact hd d hd')
    have hnd' : p.i ∉ done.map (·.i) := by simpa using hnd
    have edges : ∀ d, Edge1 ops d p.i → d ∈ done.map (·.i) := by
      rintro d ⟨o, ho, e, he, hb, rfl⟩
      have ho' : ops.toList[p.i]? = some o := by simpa using ho
      rw [ho'] at hed
      simp only [Bool.and_eq_true, List.all_eq_true, Bool.or_eq_true, Bool.not_eq_true'] at hed
      rcases hed.2 e (by simpa using he) with h | h
      · rw [binds_eq, hb] at h; cases h
      · simpa using h
    refine ⟨?_, ?_, ?_, ?_, ?_, ?_, ?_, ?_⟩
    · have := f.len; simp at this ⊢; omega
    · intro i hi
      rcases f.all i hi with h | ⟨q, hq, e⟩
      · rw [List.map_cons] at h
        rcases List.mem_cons.1 h with rfl | h
        · exact .inr ⟨p, by simp, rfl⟩
        · exact .inl h
      · exact .inr ⟨q, by simp [hq], e⟩
    · refine List.pairwise_cons.2 ⟨fun q hq => ⟨?_, f.pair q hq p (by simp), ?_⟩, f.pw⟩
      · intro e
        exact f.ndone q hq (by rw [← e]; simp)
      · intro hedge
        exact f.ndone q hq (by rw [List.map_cons]; exact List.mem_cons_of_mem _ (edges q.i hedge))
    · intro q hq
      rcases List.mem_cons.1 hq with rfl | hq
      · exact hnd'
      · intro h; exact f.ndone q hq (by rw [List.map_cons]; exact List.mem_cons_of_mem _ h)
    · intro q hq c hc
      rcases List.mem_cons.1 hq with rfl | hq
      · rw [List.all_eq_true] at hpair; exact hpair c hc
      · exact f.pair q hq c (by simp [hc])
    · intro q hq
      rcases List.mem_cons.1 hq with rfl | hq
      · intro h; exact hnd' (edges _ h)
      · exact f.self q hq
    · intro q hq d hedge
      rcases List.mem_cons.1 hq with rfl | hq
      · obtain ⟨x, hx, rfl⟩ := List.mem_map.1 (edges d hedge); exact hd x hx
      · exact f.lt q hq d hedge
    · intro q hq o ho
      rcases List.mem_cons.1 hq with rfl | hq
      · have ho' : ops.toList[q.i]? = some o := by simpa using ho
        rw [ho'] at hed
        simp only [Bool.and_eq_true] at hed
        exact hed.1
      · exact f.mode q hq o ho
end

section
variable {P : Program} {pol : FuncId → Bool} {rec : RunT}

theorem draw_ok (hmix : P.follows .mixedOrders = true) (hx : MxOk P) (hs : StepOk P pol rec) {nt : Nat} {ops : Array Oper} {pl : List PS} (hpl : planOf pol ops.toList = some pl) {T T' : Tm} {S S' : St} {E : Gh} {a : Act} {w : World}
    (h : (planA pol P ops.toList pl).f rec nt [] T S = some (T', S')) (ht : TR E nt T.get a) (hr : HR E S.heap.get w) (pr : PR E w) (fresh : ∀ n, S.next ≤ n → n < S'.next → ¬ E.dom n) (hd : a.defers = [])
    {Q : Exit → Act → World → Prop} (hq : ∀ E' a' w', TR E' nt T'.get a' → a'.defers = [] → Tran E S.heap.get w S.next E' S'.heap.get w' S'.next → Q .normal a' w') (id : Nat) : (Code.region id ops true).wp P Q a w := by
  refine wp_region_any hmix ?_
  have hok : planOkB pol ops.toList (befores ops.toList []) [] pl = true := by
    unfold planOf at hpl
    simp only at hpl
    cases hb : planOkB pol ops.toList (befores ops.toList []) [] (planFix (planFrom (befores ops.toList []) ops.toList.length [] ((ops.toList.zipIdx.map fun p => (p.2, p.1)).map fun q => (q.1, modeOf pol (befores ops.toList []) (ops.toList.zipIdx.map fun p => (p.2, p.1)) q.1 q.2)))) <;> rw [hb] at hpl
    · cases hpl
    · cases hpl; exact hb
  have f := plan_facts hok (by simp)
  obtain ⟨L, c1, c2, c3, c4, c5, c6, c7, cq, c8⟩ := plan_chain hx hs f.mode h
  have dep : ∀ i c, ((befores ops.toList []).getD i 0).testBit c = true → Dep ops c i := befores_dep ops.toList [] 0 rfl rfl (by intro i c h; simp at h)
  have hlen : L.length = ops.size := by
    have := congrArg List.length c2
    have h2 := f.len
    simp at this h2; omega
  have back : ∀ x ∈ L, ∃ p ∈ pl, p.i = x.e.i ∧ p.hide = x.hide := by
    intro x hx
    exact ⟨⟨x.e.i, x.hide, x.lg, x.c⟩, by rw [← c2]; exact List.mem_map.2 ⟨x, hx, rfl⟩, rfl, rfl⟩
  have hpw : L.Pairwise (fun c e => c.e.i ≠ e.e.i ∧ pairOk ops.toList (befores ops.toList []) ⟨c.e.i, c.hide, c.lg, c.c⟩ ⟨e.e.i, e.hide, e.lg, e.c⟩ = true ∧ ¬ Edge1 ops e.e.i c.e.i) := by
    have h1 := f.pw
    rw [← c2] at h1
    exact List.pairwise_map.1 h1
  have hrel : (L.map (·.e)).Pairwise (Rel2 ops) := by
    rw [List.pairwise_map]
    have := (hpw.and c7).imp_of_mem (S := fun c e => Rel2 ops c.e e.e) (fun {c e} hc he ⟨⟨h1, h2, h3⟩, h4, h5⟩ => by
      refine ⟨?_, h3, h4, h1⟩
      cases hb : ((befores ops.toList []).getD e.e.i 0).testBit c.e.i with
      | true => exact .inr (dep _ _ hb)
      | false => exact .inl (indep_of (c3 c hc).op (c3 e he).op (c4 c hc) (c4 e he) h5 (fun h => (cq e he h).1) (fun h => (cq e he h).2) h4 h2 hb))
    exact this
  have hpr : PR E { w with drawn := w.drawn + 1 } := pr.sameHeap rfl
  have hhr : HR E S.heap.get { w with drawn := w.drawn + 1 } := hr.sameHeap rfl
  refine wpAny_chain (P := P) (ops := ops) (nt := nt) (x0 := S.next) (y0 := S'.next) (E0 := E) (K0 := S.heap.get) (w0 := { w with drawn := w.drawn + 1 }) (Tf' := T'.get) (K' := S'.heap.get) ?_ ops.size (L.map (·.e)) _ T.get S.heap.get E a _ (by simpa using hlen) (by simp) ?_ ?_ hrel ?_ ?_ ?_ c1 ht.1 ht.2 hd hhr hpr ?_ ?_
    ((Tran.refl S.next hhr hpr).widen (Nat.le_refl _) c8)
  · intro E' a' w' h1 h2 h3 tr
    exact hq E' a' w' ⟨h1, h2⟩ h3 (tr.fromHeap rfl ⟨rfl, rfl, rfl⟩)
  · intro i hi
    constructor
    · intro _
      rcases f.all i hi with h | ⟨p, hp, rfl⟩
      · simp at h
      · have : p ∈ L.map (fun x => (⟨x.e.i, x.hide, x.lg, x.c⟩ : PS)) := by rw [c2]; exact hp
        obtain ⟨x, hx, e⟩ := List.mem_map.1 this
        exact ⟨x.e, List.mem_map.2 ⟨x, hx, rfl⟩, congrArg PS.i e⟩
    · intro _
      simp [Array.getD, hi]
  · intro e he
    obtain ⟨x, hx, rfl⟩ := List.mem_map.1 he
    exact c3 x hx
  · intro e he
    obtain ⟨x, hx, rfl⟩ := List.mem_map.1 he
    obtain ⟨p, hp, e1, _⟩ := back x hx
    rw [← e1]; exact f.self p hp
  · intro d i _ hi hlt
    simp [Array.getD, hlt] at hi
  · intro e he d hedge
    obtain ⟨x, hx, rfl⟩ := List.mem_map.1 he
    obtain ⟨p, hp, e1, _⟩ := back x hx
    rw [← e1] at hedge; exact f.lt p hp d hedge
  · intro e he
    obtain ⟨x, hx, rfl⟩ := List.mem_map.1 he
    exact c5 x hx
  · intro e he n h1 h2
    obtain ⟨x, hx, rfl⟩ := List.mem_map.1 he
    have := c5 x hx
    exact fresh n (by omega) (by omega)

/-- names only grow in a run -/
def Mono (rec : RunT) : Prop := ∀ nt c T S rs, rec nt c T S = some rs → ∀ r ∈ rs, S.next ≤ r.2.2.next

theorem plan_le (hx : MxOk P) (hs : StepOk P pol rec) {nt : Nat} {ops : Array Oper} {pl : List PS} (hpl : planOf pol ops.toList = some pl) {T T' : Tm} {S S' : St} {log : List LE} (h : (planA pol P ops.toList pl).f rec nt log T S = some (T', S')) : S.next ≤ S'.next := by
  have hok : planOkB pol ops.toList (befores ops.toList []) [] pl = true := by
    unfold planOf at hpl
    simp only at hpl
    cases hb : planOkB pol ops.toList (befores ops.toList []) [] (planFix (planFrom (befores ops.toList []) ops.toList.length [] ((ops.toList.zipIdx.map fun p => (p.2, p.1)).map fun q => (q.1, modeOf pol (befores ops.toList []) (ops.toList.zipIdx.map fun p => (p.2, p.1)) q.1 q.2)))) <;> rw [hb] at hpl
    · cases hpl
    · cases hpl; exact hb
  obtain ⟨L, _, _, _, _, _, _, _, _, h8⟩ := plan_chain hx hs (plan_facts hok (by simp)).mode h
  exact h8

theorem reg_le {nt : Nat} {l : List Oper} {T : Tm} {S : St} {rs : List (X × Tm × St)} (h : (regA pol P l).f rec nt T S = some rs) : ∀ r ∈ rs, S.next ≤ r.2.2.next := by
  unfold regA at h
  split at h
  · cases h
    intro r hr
    simp only [List.mem_singleton] at hr
    subst hr
    exact Nat.le_refl _
  · split at h
    · simp only [o2_eq, on3_eq, ob_some] at h
      obtain ⟨v, _, outs, _, h⟩ := h
      intro r hr
      obtain ⟨x, _, hx⟩ := mapO_mem h r hr
      simp only [o2_eq, on3_eq, ob_some, chk_some, nble_iff, Option.some.injEq] at hx
      obtain ⟨_, _, q, _, _, hle, rfl⟩ := hx
      exact hle
    · simp only [o2_eq, on3_eq, ob_some, Option.some.injEq] at h
      obtain ⟨⟨T1, S1⟩, h1, rfl⟩ := h
      intro r hr
      simp only [List.mem_singleton] at hr
      subst hr
      exact ops_le h1

theorem tran_fresh {E E1 : Gh} {S S1 : St} {m : Nat} {w w1 : World} (tr : Tran E S.heap.get w S.next E1 S1.heap.get w1 S1.next) (fresh : ∀ k, S.next ≤ k → k < m → ¬ E.dom k) : ∀ k, S1.next ≤ k → k < m → ¬ E1.dom k := by
  intro k h1 h2 d
  have hle := tr.le
  rcases tr.dom k d with d | ⟨_, d⟩
  · exact fresh k (by omega) h2 d
  · omega

theorem reg_ok (hs : StepOk P pol rec) {nt : Nat} {ops : Array Oper} {T : Tm} {S : St} {rs : List (X × Tm × St)} {E : Gh} {a : Act} {w : World} (h : (regA pol P ops.toList).f rec nt T S = some rs)
    (ht : TR E nt T.get a) (hr : HR E S.heap.get w) (pr : PR E w) (fresh : ∀ r ∈ rs, ∀ n, S.next ≤ n → n < r.2.2.next → ¬ E.dom n) (hd : a.defers = []) {Q : Exit → Act → World → Prop}
    (hq : ∀ T' S', (X.n, T', S') ∈ rs → ∀ E' a' w', TR E' nt T'.get a' → a'.defers = [] → Tran E S.heap.get w S.next E' S'.heap.get w' S'.next → Q .normal a' w') : wpOps P ops Q (List.range ops.size) a w := by
  have plain : ∀ T1 S1, (opsA pol P ops.toList ops.toList).f rec nt T S = some (T1, S1) → (X.n, T1, S1) ∈ rs → wpOps P ops Q (List.range ops.size) a w := by
    intro T1 S1 h1 hmem
    have := ops_ok (Q := Q) hs (k := 0) h1 rfl ht hr pr (fresh _ hmem) hd (hq T1 S1 hmem)
    rw [Nat.sub_zero, ← List.range_eq_range'] at this
    exact this
  unfold regA at h
  split at h
  · rename_i hnil
    cases h
    refine plain T S ?_ (by simp)
    rw [hnil]; rfl
  · rename_i o l hops
    split at h
    · rename_i x hop hg
      obtain ⟨dst, op, type, pos, after, guard⟩ := o
      simp only at hop hg
      subst hop
      subst hg
      simp only [o2_eq, on3_eq, ob_some] at h
      obtain ⟨v, hv, outs, houts, h⟩ := h
      have hlen : 0 < ops.size := by
        have := congrArg List.length hops
        simp at this; omega
      have ho : ops[0]? = some ⟨dst, .next x false, type, pos, after, none⟩ := by
        have := congrArg (·[0]?) hops
        simp at this
        simpa using this
      obtain ⟨r, hr1, hdo⟩ := next_does (P := P) (ty := type) houts (ev_rel ht pr hv) hr pr
      obtain ⟨y, hy, hx⟩ := mapO_all h r hr1
      simp only [o2_eq, on3_eq, ob_some, chk_some, nble_iff, Option.some.injEq] at hx
      obtain ⟨T1, hput, ⟨T2, S2⟩, hrest, _, hle, rfl⟩ := hx
      have hl' : l = ops.toList.drop 1 := by rw [hops]; rfl
      rw [List.range_eq_range', show ops.size = (ops.size - 1) + 1 from by omega, List.range'_succ]
      simp only [wpOps, ho]
      rw [if_pos (by rfl)]
      refine .inl (wp_of_does (o := ⟨dst, .next x false, type, pos, after, none⟩) (Does.ofV hdo) ?_)
      intro v' w' E' hvv tr
      have := ops_ok (Q := Q) hs (k := 1) hrest hl' (TR.put hput (ht.mono tr.ext) hvv) tr.hr tr.pr (tran_fresh tr (fresh _ hy)) (by rw [put_defers]; exact hd) (fun E2 a2 w2 ht2 hd2 tr2 => hq T2 S2 hy E2 a2 w2 ht2 hd2 (tr.trans tr2))
      simpa using this
    · simp only [o2_eq, on3_eq, ob_some, Option.some.injEq] at h
      obtain ⟨⟨T1, S1⟩, h1, rfl⟩ := h
      exact plain T1 S1 h1 (by simp)

/-- something comes of every run -/
def Some' (rec : RunT) : Prop := ∀ nt c T S rs, rec nt c T S = some rs → rs ≠ []

theorem cand_ne (es : List ME) (since : Nat) (seen : List Nat) : candA es since seen ≠ [] := by
  unfold candA
  dsimp only
  generalize List.filter (fun e => decide (e.born < since)) (List.filter (fun e => !seen.contains e.born) es) = o
  generalize List.filter (fun e => decide (e.born ≥ since)) (List.filter (fun e => !seen.contains e.born) es) = n
  cases o <;> simp

theorem next_ne {S : St} {x : AV} {outs : List (AV × St)} (h : nextA S x = some outs) : outs ≠ [] := by
  unfold nextA at h
  split at h
  · simp only [o2_eq, on3_eq, ob_some] at h
    obtain ⟨b, _, h⟩ := h
    split at h
    · cases h; simp
    · simp only [o2_eq, on3_eq, ob_some, Option.some.injEq] at h
      obtain ⟨c, _, _, _, rfl⟩ := h
      intro e
      exact cand_ne _ _ _ (List.map_eq_nil_iff.1 e)
    · cases h
  · cases h

theorem mapO_ne {α β : Type} {f : α → Option β} {l : List α} {rs : List β} (h : mapO f l = some rs) (hl : l ≠ []) : rs ≠ [] := by
  cases l with
  | nil => exact absurd rfl hl
  | cons x l =>
    obtain ⟨r, hr, _⟩ := mapO_all h x (by simp)
    exact List.ne_nil_of_mem hr

theorem reg_ne {nt : Nat} {l : List Oper} {T : Tm} {S : St} {rs : List (X × Tm × St)} (h : (regA pol P l).f rec nt T S = some rs) : rs ≠ [] := by
  unfold regA at h
  split at h
  · cases h; simp
  · split at h
    · simp only [o2_eq, on3_eq, ob_some] at h
      obtain ⟨v, _, outs, ho, h⟩ := h
      exact mapO_ne h (next_ne ho)
    · simp only [o2_eq, on3_eq, ob_some, Option.some.injEq] at h
      obtain ⟨_, _, rfl⟩ := h
      simp

/-- the loop, round by round -/
def LoopOk (P : Program) (n : Nat) (rec : RunT) : Prop :=
  ∀ nt b T S rs, rec nt (.loop b) T S = some rs → ∀ E a w, TR E nt T.get a → HR E S.heap.get w → PR E w → (∀ r ∈ rs, ∀ k, S.next ≤ k → k < r.2.2.next → ¬ E.dom k) → a.defers = [] →
    Code.rounds P b (fun e a' w' => ∃ r ∈ rs, ∃ E', XR r.1 e ∧ TR E' nt r.2.1.get a' ∧ a'.defers = [] ∧ Tran E S.heap.get w S.next E' r.2.2.heap.get w' r.2.2.next) n a w

theorem run_succ (pol : FuncId → Bool) (pl : List Oper → Option (List PS)) (P : Program) (n nt : Nat) (c : Code) (T : Tm) (S : St) :
    run pol pl P (n + 1) nt c T S = (runF pol pl P c).f (run pol pl P n) nt T S := rfl

theorem rounds_mono {c : Code} {Q Q' : Exit → Act → World → Prop} (h : ∀ e a w, Q e a w → Q' e a w) : ∀ (n : Nat) (a : Act) (w : World), Code.rounds P c Q n a w → Code.rounds P c Q' n a w
  | 0, _, _, hr => hr
  | n + 1, a, w, hr => by
    rw [rounds_succ] at hr ⊢
    refine wp_mono hr fun e a' w' he => ?_
    cases e <;> first | exact rounds_mono h n a' w' he | exact h _ _ _ he

/-- what stands behind a first part: the second part, where the first ended in the normal way -/
theorem cat_split {nt : Nat} {c : Code} {rs1 rs : List (X × Tm × St)} (h : catO (fun r => match r.1 with | .n => rec nt c r.2.1 r.2.2 | x => some [(x, r.2.1, r.2.2)]) rs1 = some rs) {r1 : X × Tm × St} (h1 : r1 ∈ rs1) :
    (r1.1 = .n ∧ ∃ q, rec nt c r1.2.1 r1.2.2 = some q ∧ ∀ r ∈ q, r ∈ rs) ∨ (r1.1 ≠ .n ∧ r1 ∈ rs) := by
  obtain ⟨q, hq, hall⟩ := catO_all h r1 h1
  obtain ⟨x, T1, S1⟩ := r1
  cases x with
  | n => exact .inl ⟨rfl, q, hq, hall⟩
  | e id =>
    simp only [Option.some.injEq] at hq
    subst hq
    exact .inr ⟨nofun, hall _ (by simp)⟩
  | r =>
    simp only [Option.some.injEq] at hq
    subst hq
    exact .inr ⟨nofun, hall _ (by simp)⟩

theorem cat_le {nt : Nat} {c : Code} {rs1 rs : List (X × Tm × St)} (mono : Mono rec) (h : catO (fun r => match r.1 with | .n => rec nt c r.2.1 r.2.2 | x => some [(x, r.2.1, r.2.2)]) rs1 = some rs) {m : Nat} (h1 : ∀ r ∈ rs1, m ≤ r.2.2.next) :
    ∀ r ∈ rs, m ≤ r.2.2.next := by
  intro r hr
  obtain ⟨⟨x, T1, S1⟩, hx, q, hq, hrq⟩ := catO_mem h r hr
  have := h1 _ hx
  cases x with
  | n => exact Nat.le_trans this (mono _ _ _ _ _ hq r hrq)
  | e id =>
    simp only [Option.some.injEq] at hq
    subst hq
    simp only [List.mem_singleton] at hrq
    subst hrq
    exact this
  | r =>
    simp only [Option.some.injEq] at hq
    subst hq
    simp only [List.mem_singleton] at hrq
    subst hrq
    exact this

/-- a first part leaves the names fresh that the whole may take -/
theorem cat_fresh {nt : Nat} {c : Code} {rs1 rs : List (X × Tm × St)} (mono : Mono rec) (h : catO (fun r => match r.1 with | .n => rec nt c r.2.1 r.2.2 | x => some [(x, r.2.1, r.2.2)]) rs1 = some rs) {S : St} {E : Gh}
    (fresh : ∀ r ∈ rs, ∀ k, S.next ≤ k → k < r.2.2.next → ¬ E.dom k) (le : Some' rec) : ∀ r ∈ rs1, ∀ k, S.next ≤ k → k < r.2.2.next → ¬ E.dom k := by
  intro r1 h1 k hk hlt
  rcases cat_split h h1 with ⟨_, q, hq, hall⟩ | ⟨_, hin⟩
  · cases q with
    | nil => exact absurd rfl (le _ _ _ _ _ hq)
    | cons r q =>
      exact fresh r (hall r (by simp)) k hk (Nat.lt_of_lt_of_le hlt (mono _ _ _ _ _ hq r (by simp)))
  · exact fresh r1 hin k hk hlt

theorem cat_ne {nt : Nat} {c : Code} {rs1 rs : List (X × Tm × St)} (le : Some' rec) (h : catO (fun r => match r.1 with | .n => rec nt c r.2.1 r.2.2 | x => some [(x, r.2.1, r.2.2)]) rs1 = some rs) (h1 : rs1 ≠ []) : rs ≠ [] := by
  cases rs1 with
  | nil => exact absurd rfl h1
  | cons r1 l =>
    rcases cat_split h (r1 := r1) (by simp) with ⟨_, q, hq, hall⟩ | ⟨_, hin⟩
    · cases q with
      | nil => exact absurd rfl (le _ _ _ _ _ hq)
      | cons r q => exact List.ne_nil_of_mem (hall r (by simp))
    · exact List.ne_nil_of_mem hin

theorem run_ok (hmix : P.follows .mixedOrders = true) (hx : MxOk P) (hP : NoNum P) : ∀ n, RecOk P (run pol (planOf pol) P n) ∧ Mono (run pol (planOf pol) P n) ∧ Some' (run pol (planOf pol) P n) ∧ LoopOk P n (run pol (planOf pol) P n)
  | 0 => ⟨(by intro nt c T S rs h; cases h), (by intro nt c T S rs h; cases h), (by intro nt c T S rs h; cases h), (by intro nt b T S rs h; cases h)⟩
  | n + 1 => by
    obtain ⟨ih, mono, ne, ihl⟩ := run_ok hmix hx hP n
    have hs : StepOk P pol (run pol (planOf pol) P n) := fun h ho hr pr fr _ _ hn => opSim hx hP ih h ho hr pr fr hn
    have mono' : Mono (run pol (planOf pol) P (n + 1)) := by
      intro nt c T S rs h
      rw [run_succ] at h
      cases c <;> simp only [runF, reduceCtorEq] at h
      case skip => cases h; intro r hr; simp only [List.mem_singleton] at hr; subst hr; exact Nat.le_refl _
      case exit id => cases h; intro r hr; simp only [List.mem_singleton] at hr; subst hr; exact Nat.le_refl _
      case ret => cases h; intro r hr; simp only [List.mem_singleton] at hr; subst hr; exact Nat.le_refl _
      case region id ops d =>
        cases d
        · exact reg_le h
        · simp only [cond_true] at h
          split at h
          · rename_i hpl
            simp only [o2_eq, on3_eq, ob_some, Option.some.injEq] at h
            obtain ⟨⟨T1, S1⟩, h1, rfl⟩ := h
            intro r hr
            simp only [List.mem_singleton] at hr
            subst hr
            exact plan_le hx hs hpl h1
          · cases h
      case seq p q =>
        rw [ob_some] at h
        obtain ⟨rs1, h1, h⟩ := h
        exact cat_le mono h (mono _ _ _ _ _ h1)
      case cond v p q =>
        rw [ob_some] at h
        obtain ⟨u, _, h⟩ := h
        split at h
        · exact mono _ _ _ _ _ h
        · exact mono _ _ _ _ _ h
        · cases h
      case block id b =>
        rw [ob_some] at h
        obtain ⟨rs1, h1, h⟩ := h
        have := mono _ _ _ _ _ h1
        cases h
        intro r hr
        obtain ⟨⟨x, T1, S1⟩, hx, rfl⟩ := List.mem_map.1 hr
        have := this _ hx
        cases x with
        | n => exact this
        | r => exact this
        | e i => simp only [on3_eq]; cases i.beq id <;> exact this
      case loop b =>
        rw [ob_some] at h
        obtain ⟨rs1, h1, h⟩ := h
        exact cat_le mono h (mono _ _ _ _ _ h1)
    have ne' : Some' (run pol (planOf pol) P (n + 1)) := by
      intro nt c T S rs h
      rw [run_succ] at h
      cases c <;> simp only [runF, reduceCtorEq] at h
      case skip => cases h; simp
      case exit id => cases h; simp
      case ret => cases h; simp
      case region id ops d =>
        cases d
        · exact reg_ne h
        · simp only [cond_true] at h
          split at h
          · simp only [o2_eq, on3_eq, ob_some, Option.some.injEq] at h
            obtain ⟨⟨T1, S1⟩, h1, rfl⟩ := h
            simp
          · cases h
      case seq p q =>
        rw [ob_some] at h
        obtain ⟨rs1, h1, h⟩ := h
        exact cat_ne ne h (ne _ _ _ _ _ h1)
      case cond v p q =>
        rw [ob_some] at h
        obtain ⟨u, _, h⟩ := h
        split at h
        · exact ne _ _ _ _ _ h
        · exact ne _ _ _ _ _ h
        · cases h
      case block id b =>
        rw [ob_some] at h
        obtain ⟨rs1, h1, h⟩ := h
        have := ne _ _ _ _ _ h1
        cases h
        intro e
        exact this (List.map_eq_nil_iff.1 e)
      case loop b =>
        rw [ob_some] at h
        obtain ⟨rs1, h1, h⟩ := h
        exact cat_ne ne h (ne _ _ _ _ _ h1)
    have loop' : LoopOk P (n + 1) (run pol (planOf pol) P (n + 1)) := by
      intro nt b T S rs h E a w ht hr pr fresh hd
      rw [run_succ] at h
      simp only [runF] at h
      rw [ob_some] at h
      obtain ⟨rs1, h1, h⟩ := h
      rw [rounds_succ]
      refine wp_mono (ih _ _ _ _ _ h1 E a w ht hr pr (cat_fresh mono h fresh ne) hd) ?_
      rintro e a1 w1 ⟨⟨y, T1, S1⟩, hy, E1, hxr, ht1, hd1, tr1⟩
      rcases cat_split h hy with ⟨hy0, q, hq, hall⟩ | ⟨hy0, hin⟩
      · simp only at hy0
        subst hy0
        simp only [XR] at hxr
        subst hxr
        show Code.rounds P b _ n a1 w1
        refine rounds_mono ?_ n a1 w1 (ihl _ _ _ _ _ hq E1 a1 w1 ht1 tr1.hr tr1.pr (fun r hr => tran_fresh tr1 (fresh r (hall r hr))) hd1)
        rintro e a2 w2 ⟨r2, hr2, E2, hx2, ht2, hd2, tr2⟩
        exact ⟨r2, hall r2 hr2, E2, hx2, ht2, hd2, tr1.trans tr2⟩
      · cases y with
        | n => exact absurd rfl hy0
        | e id => simp only [XR] at hxr; subst hxr; exact ⟨_, hin, E1, rfl, ht1, hd1, tr1⟩
        | r => simp only [XR] at hxr; subst hxr; exact ⟨_, hin, E1, rfl, ht1, hd1, tr1⟩
    refine ⟨?_, mono', ne', loop'⟩
    intro nt c T S rs h E a w ht hr pr fresh hd
    have h0 := h
    rw [run_succ] at h
    cases c <;> simp only [runF, reduceCtorEq] at h
    case skip => cases h; exact wp_skip ⟨(X.n, T, S), List.mem_singleton.2 rfl, E, rfl, ht, hd, Tran.refl _ hr pr⟩
    case exit id => cases h; exact wp_exit ⟨(X.e id, T, S), List.mem_singleton.2 rfl, E, rfl, ht, hd, Tran.refl _ hr pr⟩
    case ret => cases h; exact wp_ret ⟨(X.r, T, S), List.mem_singleton.2 rfl, E, rfl, ht, hd, Tran.refl _ hr pr⟩
    case region id ops d =>
      cases d
      · simp only [cond_false] at h
        exact wp_region (reg_ok hs h ht hr pr fresh hd (fun T' S' hm E' a' w' h2 h3 h4 => ⟨_, hm, E', rfl, h2, h3, h4⟩))
      · simp only [cond_true] at h
        split at h
        · rename_i p hp
          simp only [o2_eq, on3_eq, ob_some, Option.some.injEq] at h
          obtain ⟨⟨T1, S1⟩, h1, rfl⟩ := h
          exact draw_ok hmix hx hs hp h1 ht hr pr (fresh (X.n, T1, S1) (List.mem_singleton.2 rfl)) hd (fun E' a' w' h2 h3 h4 => ⟨(X.n, T1, S1), List.mem_singleton.2 rfl, E', rfl, h2, h3, h4⟩) id
        · cases h
    case seq p q =>
      rw [ob_some] at h
      obtain ⟨rs1, h1, h⟩ := h
      refine wp_seq (wp_mono (ih _ _ _ _ _ h1 E a w ht hr pr (cat_fresh mono h fresh ne) hd) ?_)
      rintro e a1 w1 ⟨⟨y, T1, S1⟩, hy, E1, hxr, ht1, hd1, tr1⟩
      rcases cat_split h hy with ⟨hy0, q', hq, hall⟩ | ⟨hy0, hin⟩
      · simp only at hy0
        subst hy0
        simp only [XR] at hxr
        subst hxr
        show q.wp P _ a1 w1
        refine wp_mono (ih _ _ _ _ _ hq E1 a1 w1 ht1 tr1.hr tr1.pr (fun r hr => tran_fresh tr1 (fresh r (hall r hr))) hd1) ?_
        rintro e a2 w2 ⟨r2, hr2, E2, hx2, ht2, hd2, tr2⟩
        exact ⟨r2, hall r2 hr2, E2, hx2, ht2, hd2, tr1.trans tr2⟩
      · cases y with
        | n => exact absurd rfl hy0
        | e id => simp only [XR] at hxr; subst hxr; exact ⟨_, hin, E1, rfl, ht1, hd1, tr1⟩
        | r => simp only [XR] at hxr; subst hxr; exact ⟨_, hin, E1, rfl, ht1, hd1, tr1⟩
    case cond v p q =>
      rw [ob_some] at h
      obtain ⟨u, hu, h⟩ := h
      have hv := ev_rel ht pr hu
      split at h
      · simp only [VR] at hv
        exact wp_cond_true hv (ih _ _ _ _ _ h E a w ht hr pr fresh hd)
      · simp only [VR] at hv
        exact wp_cond_false hv (ih _ _ _ _ _ h E a w ht hr pr fresh hd)
      · cases h
    case block id b =>
      rw [ob_some] at h
      obtain ⟨rs1, h1, h⟩ := h
      simp only [Option.some.injEq] at h
      subst h
      have hmem : ∀ r1 ∈ rs1, (match r1.1 with
        | .e i => bif i.beq id then (X.n, r1.2.1, r1.2.2) else (X.e i, r1.2.1, r1.2.2)
        | x => (x, r1.2.1, r1.2.2)) ∈ rs1.map fun r => match r.1 with
        | .e i => bif i.beq id then (X.n, r.2.1, r.2.2) else (X.e i, r.2.1, r.2.2)
        | x => (x, r.2.1, r.2.2) := fun r1 hr1 => List.mem_map.2 ⟨r1, hr1, rfl⟩
      refine wp_block (wp_mono (ih _ _ _ _ _ h1 E a w ht hr pr (fun r1 hr1 k hk hlt => fresh _ (hmem r1 hr1) k hk ?_) hd) ?_)
      · obtain ⟨x, T1, S1⟩ := r1
        cases x with
        | n => exact hlt
        | r => exact hlt
        | e i => simp only; cases i.beq id <;> exact hlt
      rintro e a1 w1 ⟨⟨y, T1, S1⟩, hy, E1, hxr, ht1, hd1, tr1⟩
      have hm := hmem _ hy
      cases y with
      | n => simp only [XR] at hxr; subst hxr; exact ⟨_, hm, E1, rfl, ht1, hd1, tr1⟩
      | r => simp only [XR] at hxr; subst hxr; exact ⟨_, hm, E1, rfl, ht1, hd1, tr1⟩
      | e i =>
        simp only [XR] at hxr
        subst hxr
        simp only at hm
        by_cases e : i = id
        · subst e
          rw [Nat.beq_refl, cond_true] at hm
          simp only [Exit.inBlock, if_true]
          exact ⟨_, hm, E1, rfl, ht1, hd1, tr1⟩
        · rw [nbeq_false e, cond_false] at hm
          simp only [Exit.inBlock, if_neg e]
          exact ⟨_, hm, E1, rfl, ht1, hd1, tr1⟩
    case loop b =>
      exact wp_loop_rounds (n + 1) (loop' _ _ _ _ _ h0 E a w ht hr pr fresh hd)

end
end Go.Eng
namespace Go.Eng
set_option linter.unusedSectionVars false
variable [Gl] [Mx]

noncomputable def isT : Option (AV × St) → Bool
  | some (.bool b, _) => b
  | _ => false

/-- the world holds the package-level variables: the blocks that nobody writes -/
structure Laid (w : World) where
  prot : Nat → Option (Array Value)
  pr : PR { dom := fun _ => False, blk := fun _ => 0, sh := fun _ => 0, bsz := fun _ => 0, prot := prot } w

/-- a law on name-free arguments -/
theorem pure_law {P : Program} {f : FuncId} {args : List AV} (h : PureOk P f args (.bool true)) (E : Gh) (w : World) (pr : PR E w) (vs : Array Value) (ha : VRP E.ice args vs.toList) (hl : args.length = vs.size) :
    Calls P f vs w fun e w' => e = .returned (.bool true) ∧ RowKit.Below w.heap.size w w' := by
  refine Calls.mono (h E w vs ha hl pr) ?_
  rintro e w' ⟨v', E', rfl, hv, _, _, hsz, hfr, henv⟩
  simp only [VR] at hv
  subst hv
  exact ⟨rfl, henv.os, henv.tape, henv.output, hsz, fun k hk => (hfr k hk).1⟩

/-- what the engine computes of a call on name-free arguments is what the call does -/
theorem run_pure {P : Program} {pol : FuncId → Bool} (hmix : P.follows .mixedOrders = true) (hx : MxOk P) (hP : NoNum P) (n : Nat) {f : FuncId} {args : List AV} {v : AV} (h : pureF P (run pol (planOf pol) P n) f args = some v) : PureOk P f args v :=
  pureF_ok hx (run_ok hmix hx hP n).1 h

noncomputable def isV (v : AV) : Option AV → Bool
  | some u => same v u
  | none => false

theorem isV_eq {v : AV} {x : Option AV} (h : isV v x = true) : x = some v := by
  cases x with
  | none => cases h
  | some u => rw [same_sames.1 v u h]

/-- no function with a body bears the one name that the model treats apart -/
theorem noNum_of {P : Program} (h : (P.funcs.toList.all fun fn => fn.body.isNone || !(fn.name == "runtime.NumGoroutine")) = true) : NoNum P := by
  intro f fn hf hb
  have := List.all_eq_true.1 h fn (by simpa using Array.mem_of_getElem? hf)
  cases hbody : fn.body with
  | none => rw [hbody] at hb; cases hb
  | some c =>
    rw [hbody] at this
    simpa using this

end Go.Eng
namespace Go.Eng

/-! known calls: a table of what pure calls return -/
abbrev KE := FuncId × List AV × AV

noncomputable def look : List KE → FuncId → List AV → Option AV
  | [], _, _ => none
  | e :: r, f, args => bif f.beq e.1 && sames args e.2.1 then some e.2.2 else look r f args

/-- what is known, and what is special: calls that have nothing to do, sorts, swaps -/
structure Sp where
  tn : FuncId → TypeId → Bool
  so : FuncId → TypeId → Option (FuncId × FuncId × TypeId)
  sw : FuncId → Bool
  ty : TypeId → Bool := fun _ => false
  ar : TypeId → Bool := fun _ => false
  ex : FuncId → List AV → Option AV := fun _ _ => none
  ro : FuncId → Bool := fun _ => false
noncomputable abbrev mxTab (sp : Sp) (tab : List KE) : Mx := { x := look tab, tn := sp.tn, so := sp.so, sw := sp.sw, ty := sp.ty, ar := sp.ar, ex := sp.ex, ro := sp.ro }
noncomputable def spNone : Sp := { tn := fun _ _ => false, so := fun _ _ => none, sw := fun _ => false }

structure Known [Gl] (P : Program) (e : KE) : Prop where
  fn : ∃ fn, P.funcs[e.1]? = some fn ∧ fn.body.isSome = true
  ok : PureOk P e.1 e.2.1 e.2.2

theorem known_nil {Q : KE → Prop} : ∀ e ∈ ([] : List KE), Q e := fun _ h => by cases h
theorem known_cons {Q : KE → Prop} {e : KE} {l : List KE} (h : Q e) (hl : ∀ e ∈ l, Q e) : ∀ d ∈ e :: l, Q d := fun d hd => by
  rcases List.mem_cons.1 hd with rfl | hd
  · exact h
  · exact hl d hd

theorem look_ok [Gl] {P : Program} : ∀ {tab : List KE} {f : FuncId} {args : List AV} {v : AV}, (∀ e ∈ tab, Known P e) → look tab f args = some v → Known P (f, args, v)
  | [], _, _, _, _, h => by cases h
  | e :: tab, f, args, v, hk, h => by
    unfold look at h
    cases hb : (f.beq e.1 && sames args e.2.1) <;> rw [hb] at h
    · exact look_ok (fun d hd => hk d (List.mem_cons_of_mem _ hd)) h
    · simp only [Bool.and_eq_true, nbeq_iff] at hb
      obtain ⟨rfl, hs⟩ := hb
      have hs := (@same_sames ⟨fun _ => none⟩ (mxTab spNone [])).2 _ _ hs
      subst hs
      cases h
      exact hk e (by simp)

structure SpOk (P : Program) (sp : Sp) : Prop where
  externs : ∀ f args v, sp.ex f args = some v → ∀ (E : Gh) (vs : Array Value), VRP E args vs.toList → args.length = vs.size → ∃ u, VR E v u ∧ ∀ W, (callFunc f vs).run P W = .ok (.value u) W
  tiny : ∀ f t, sp.tn f t = true → (∃ fn, P.funcs[f]? = some fn ∧ fn.body.isSome = true) ∧
    ∀ (p : Option Addr) (n c : Nat) (g : Fn) (a b : Array Value) (w : World), n ≤ 1 → Calls P f #[.iface t (.slice p n c), .func g a b] w fun e w' => e = .returned (.tuple #[]) ∧ ∃ os : Array Obj, w' = { w with heap := w.heap ++ os }
  sorts : ∀ f t q, sp.so f t = some q → (∃ fn, P.funcs[f]? = some fn ∧ fn.body.isSome = true) ∧
    ∀ (p : Option Addr) (n c : Nat) (g : Fn) (a b : Array Value) (w : World) (R : World → Prop), 2 ≤ n → n < 4611686018427387904 →
      (∀ os : Array Obj, Calls P q.1 #[.agg #[.func g a b, .func (.func q.2.1) #[] #[.slice p n c, typeHandle P q.2.2]], .int .i64 0, .int .i64 n, .int .i64 ((n.log2 + 1 : Nat) : Int)] { w with heap := w.heap ++ os } fun e w' => e = .returned (.tuple #[]) ∧ R w') →
      Calls P f #[.iface t (.slice p n c), .func g a b] w fun e w' => e = .returned (.tuple #[]) ∧ R w'
  swaps : ∀ s, sp.sw s = true → ∃ gS, ∀ args W, (callFunc s args).run P W = ((Extern.ReflectliteSwapper.swap gS args).run P W).andThen fun v w' => .ok (.value v) w'

theorem mxTab_ok [Gl] {P : Program} {sp : Sp} {tab : List KE} (ht : SpOk P sp) (hk : ∀ e ∈ tab, Known P e) : @MxOk _ (mxTab sp tab) P :=
  @MxOk.mk _ (mxTab sp tab) P (fun _ _ _ h => ⟨(look_ok hk h).fn, (look_ok hk h).ok⟩) ht.tiny ht.sorts ht.externs ht.swaps

/-! functions without a body -/
noncomputable def exCount : List AV → Option AV
  | [.str s, .int .u8 c] => some (.int .i64 (Lib.countByte s.data.toList c.toNat.toUInt8))
  | _ => none
noncomputable def exIndex : List AV → Option AV
  | [.str s, .int .u8 c] => some (.int .i64 (Lib.indexByte s.data.toList c.toNat.toUInt8))
  | _ => none
noncomputable def exSame : List AV → Option AV
  | [x] => some x
  | _ => none
def ExOk (P : Program) (f : FuncId) (g : List AV → Option AV) : Prop := ∀ args v, g args = some v → ∀ (E : Gh) (vs : Array Value), VRP E args vs.toList → args.length = vs.size → ∃ u, VR E v u ∧ ∀ W, (callFunc f vs).run P W = .ok (.value u) W
theorem two_vs {E : Gh} {a b : AV} {vs : Array Value} (h : VRP E [a, b] vs.toList) (hl : [a, b].length = vs.size) : ∃ u v, vs = #[u, v] ∧ VR E a u ∧ VR E b v := by
  obtain ⟨l⟩ := vs
  match l, h, hl with
  | [u, v], h, _ => exact ⟨u, v, rfl, by simp only [VRP] at h; exact h.1, by simp only [VRP] at h; exact h.2.1⟩
  | [], _, hl => simp at hl
  | [_], _, hl => simp at hl
  | _ :: _ :: _ :: _, _, hl => simp at hl
theorem exCount_ok {P : Program} {f : FuncId} (hf : ∀ args W, (callFunc f args).run P W = ((Extern.BytealgCount.count args).run P W).andThen fun v w' => .ok (.value v) w') : ExOk P f exCount := by
  intro args v h E vs hv hl
  unfold exCount at h
  split at h
  · cases h
    obtain ⟨a, b, rfl, ha, hb⟩ := two_vs hv hl
    simp only [VR] at ha hb
    subst ha hb
    exact ⟨_, by simp only [VR]; rfl, fun W => by rw [hf, Lib.run_countString]; rfl⟩
  · cases h
theorem exIndex_ok {P : Program} {f : FuncId} (hf : ∀ args W, (callFunc f args).run P W = ((Extern.BytealgIndexByte.indexByte args).run P W).andThen fun v w' => .ok (.value v) w') : ExOk P f exIndex := by
  intro args v h E vs hv hl
  unfold exIndex at h
  split at h
  · cases h
    obtain ⟨a, b, rfl, ha, hb⟩ := two_vs hv hl
    simp only [VR] at ha hb
    subst ha hb
    exact ⟨_, by simp only [VR]; rfl, fun W => by rw [hf, Lib.run_indexByteString]; rfl⟩
  · cases h
theorem exSame_ok {P : Program} {f : FuncId} (hf : ∀ args W, (callFunc f args).run P W = ((Extern.AbiNoEscape.same args).run P W).andThen fun v w' => .ok (.value v) w') : ExOk P f exSame := by
  intro args v h E vs hv hl
  unfold exSame at h
  split at h
  · cases h
    obtain ⟨l⟩ := vs
    match l, hv, hl with
    | [u], hv, _ => exact ⟨u, by simp only [VRP] at hv; exact hv.1, fun W => by rw [hf]; rfl⟩
    | [], _, hl => simp at hl
    | _ :: _ :: _, _, hl => simp at hl
  · cases h

/-- what a pure call returns, by the engine -/
noncomputable def pureX [Gl] (m : Mx) (P : Program) (pol : FuncId → Bool) (n : Nat) (f : FuncId) (args : List AV) : Option AV := @pureF m P (@run _ m pol (planOf pol) P n) f args

theorem pureF_fn [Gl] [Mx] {P' : Program} (hx : MxOk P') {rec : RunT} {f : FuncId} {args : List AV} {v : AV} (h : pureF P' rec f args = some v) : ∃ fn, P'.funcs[f]? = some fn ∧ fn.body.isSome = true := by
  unfold pureF at h
  split at h
  · rename_i hq
    exact (hx.known _ _ _ hq).1
  · simp only [o2_eq, on3_eq, ob_some] at h
    obtain ⟨r, hr, _⟩ := h
    simp only [callM, o2_eq, on3_eq, ob_some] at hr
    obtain ⟨fn, hf, c, hb, _⟩ := hr
    exact ⟨fn, hf, by rw [hb]; rfl⟩

theorem known_of [Gl] {m : Mx} {P : Program} {pol : FuncId → Bool} {n : Nat} {e : KE} (hmix : P.follows .mixedOrders = true) (hx : @MxOk _ m P) (hP : NoNum P) (h : isV e.2.2 (pureX m P pol n e.1 e.2.1) = true) : Known P e :=
  ⟨@pureF_fn _ m _ hx _ _ _ _ (isV_eq h), @run_pure _ m _ _ hmix hx hP n _ _ _ (isV_eq h)⟩

/-- a law without arguments: where the engine's run of it ends in true -/
theorem law_of [Gl] {m : Mx} {P : Program} {pol : FuncId → Bool} {n : Nat} {f : FuncId} (hmix : P.follows .mixedOrders = true) (hx : @MxOk _ m P) (hP : NoNum P) (h : isV (.bool true) (pureX m P pol n f []) = true) (w : World) (L : Laid w) :
    Calls P f #[] w fun e w' => e = .returned (.bool true) ∧ RowKit.Below w.heap.size w w' :=
  pure_law (@run_pure _ m _ _ hmix hx hP n _ _ _ (isV_eq h)) _ w L.pr #[] VRP.nil rfl

end Go.Eng
