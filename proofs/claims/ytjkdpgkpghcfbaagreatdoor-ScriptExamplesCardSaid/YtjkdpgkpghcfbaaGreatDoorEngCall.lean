/-
  Freezing, calls, and every operation together.
-/
import Derived.Test.YtjkdpgkpghcfbaaGreatDoorEngOps3
set_option linter.unusedSimpArgs false
set_option linter.unusedVariables false
namespace Go.Eng
set_option linter.unusedSectionVars false
variable [Gl] [Mx]
section
variable {P : Program} {E : Gh} {S S' : St} {w : World} {T : Tm}

/-! freezing -/
noncomputable def Gh.keep (E : Gh) (b : Nat) (arr : Array Value) : Gh := { E with prot := fun k => if k = b then some arr else E.prot k }

theorem freeze_tran {n : Nat} {bb : AB} (hm : bb.mut = true) {c : List AV} {arr : Array Value} {el : TypeId} {fz : Nat × Nat} (hr : HR E S.heap.get w) (pr : PR E w) (hb : S.heap.get n = some bb)
    (hw : w.heap[E.blk n]? = some (.cells arr el fz)) (hs : E.bsz n = arr.size) (hv : VRP E c (arr.toList.drop (E.sh n))) : Tran E S.heap.get w S.next (E.keep (E.blk n) arr) (S.heap.put n (.ice c)).get w S.next := by
  have ext : Ext E (E.keep (E.blk n) arr) := ⟨fun _ h => h, fun _ _ => rfl, fun _ _ => rfl, fun _ _ => rfl, fun k a hk => by
    show (if k = E.blk n then some arr else E.prot k) = some a
    rw [if_neg (fun e => by rw [e, hr.free n _ hb hm] at hk; cases hk)]; exact hk⟩
  have old : ∀ m d, m ≠ n → (S.heap.put n (.ice c)).get m = some d → S.heap.get m = some d := fun m d e hd => by
    rw [Tr.get_put, if_neg e] at hd; exact hd
  have some' : ∀ m d, (S.heap.put n (.ice c)).get m = some d → ∃ d', S.heap.get m = some d' := fun m d hd => by
    by_cases e : m = n
    · subst e; exact ⟨_, hb⟩
    · exact ⟨d, old m d e hd⟩
  refine ⟨ext, Nat.le_refl _, fun _ d => .inl d, ⟨?_, ?_, ?_⟩, ?_, Nat.le_refl _, fun m d hd => .inl (some' m d hd), fun m d hd _ => ?_, fun _ _ _ => rfl, ?_, Env.refl w⟩
  · intro m d hd
    by_cases e : m = n
    · subst e
      rw [Tr.get_put, if_pos rfl] at hd
      cases hd
      refine ⟨(hr.blk m _ hb).1, _, hw, ?_⟩
      simp only [BR]
      exact ⟨arr, el, fz, rfl, hs, if_pos rfl, VRP.mono ext _ _ hv⟩
    · obtain ⟨dm, o, ho, hbr⟩ := hr.blk m d (old m d e hd)
      exact ⟨dm, o, ho, hbr.mono ext dm⟩
  · intro m d hd hmut
    by_cases e : m = n
    · subst e
      rw [Tr.get_put, if_pos rfl] at hd
      cases hd
      cases hmut
    · have hm := old m d e hd
      show (if E.blk m = E.blk n then some arr else E.prot (E.blk m)) = none
      rw [if_neg (fun e' => e (hr.inj m n d _ hm hb e'))]
      exact hr.free m d hm hmut
  · intro m k d d' hd hd' e
    obtain ⟨x, hx⟩ := some' m d hd
    obtain ⟨y, hy⟩ := some' k d' hd'
    exact hr.inj m k x y hx hy e
  · refine ⟨?_, fun g v hg => VR.mono ext.ice _ _ (pr.gl g v hg)⟩
    intro k a hk
    have hk' : (if k = E.blk n then some arr else E.prot k) = some a := hk
    by_cases e : k = E.blk n
    · rw [if_pos e] at hk'
      cases hk'
      exact ⟨el, fz, by rw [e]; exact hw⟩
    · rw [if_neg e] at hk'
      exact pr.blk k a hk'
  · obtain ⟨d', hd'⟩ := some' m d hd
    exact ⟨m, d', hd', rfl⟩
  · intro k _ hk
    show (if k = E.blk n then some arr else E.prot k) = E.prot k
    rw [if_neg (fun e => hk n _ hb e.symm)]

/-- one freezing -/
def FrzOk (g : St → AV → Option (AV × St)) : Prop :=
  ∀ (E : Gh) (S S' : St) (w : World) (x y : AV) (v : Value), g S x = some (y, S') → VR E x v → HR E S.heap.get w → PR E w →
    ∃ E', VR E'.ice y v ∧ S'.next = S.next ∧ Tran E S.heap.get w S.next E' S'.heap.get w S.next

theorem mapS_ok {g : St → AV → Option (AV × St)} (hg : FrzOk g) : ∀ (xs ys : List AV) (vs : List Value) (E : Gh) (S S' : St) (w : World), mapS g S xs = some (ys, S') → VRP E xs vs → HR E S.heap.get w → PR E w →
    ∃ E', VRP E'.ice ys vs ∧ ys.length = xs.length ∧ S'.next = S.next ∧ Tran E S.heap.get w S.next E' S'.heap.get w S.next
  | [], ys, vs, E, S, S', w, h, _, hr, pr => by
    simp only [mapS, Option.some.injEq, Prod.mk.injEq] at h
    obtain ⟨rfl, rfl⟩ := h
    exact ⟨E, VRP.nil, rfl, rfl, Tran.refl _ hr pr⟩
  | x :: xs, ys, [], E, S, S', w, _, hv, _, _ => by simp only [VRP] at hv
  | x :: xs, ys, v :: vs, E, S, S', w, h, hv, hr, pr => by
    simp only [mapS, o2_eq, on3_eq, ob_some, Option.some.injEq, Prod.mk.injEq] at h
    obtain ⟨⟨y, S1⟩, h1, ⟨ys', S2⟩, h2, rfl, rfl⟩ := h
    rw [VRP.cons_iff] at hv
    obtain ⟨E1, hy, hn1, t1⟩ := hg E S S1 w x y v h1 hv.1 hr pr
    obtain ⟨E2, hys, hl, hn2, t2⟩ := mapS_ok hg xs ys' vs E1 S1 S2 w h2 (VRP.mono t1.ext _ _ hv.2) t1.hr t1.pr
    rw [hn1] at t2 hn2
    exact ⟨E2, VRP.cons_iff.2 ⟨VR.mono t2.ext.ice _ _ hy, hys⟩, by simp [hl], hn2, t1.trans t2⟩

theorem frz_ok : ∀ f, FrzOk (frz f)
  | 0 => by intro E S S' w x y v h; simp [frz] at h
  | f + 1 => by
    intro E S S' w x y v h hx hr pr
    have ih := mapS_ok (frz_ok f)
    unfold frz at h
    split at h
    · rename_i n off len cap z
      rw [ob_some] at h
      obtain ⟨b, hb, h⟩ := h
      obtain ⟨_, o, ho, hbr⟩ := hr.blk n b hb
      split at h
      · rename_i c
        simp only [o2_eq, on3_eq, ob_some, Option.some.injEq, Prod.mk.injEq] at h
        obtain ⟨r, hs, ⟨r', S1⟩, hm, rfl, rfl⟩ := h
        simp only [BR] at hbr
        obtain ⟨arr, el, fz, rfl, hsz, _, hv⟩ := hbr
        obtain ⟨rfl, hl, _⟩ := sub_some hs
        have t1 := freeze_tran rfl hr pr hb ho hsz hv
        have hrel : VRP E ((c.drop off).take (len * z)) ((arr.toList.drop (E.sh n)).drop off) := VRP.take _ (VRP.drop _ hv)
        obtain ⟨E2, h2, hl2, hn2, t2⟩ := ih _ _ _ _ _ _ w hm (VRP.mono t1.ext _ _ hrel) t1.hr t1.pr
        refine ⟨E2, ?_, hn2, t1.trans t2⟩
        simp only [VR] at hx ⊢
        obtain ⟨_, k, rfl, hlk, _⟩ := hx
        refine .inl ⟨_, _, none, k, rfl, hlk, .inr ⟨rfl, arr, t2.ext.prot _ _ (if_pos rfl), ?_⟩⟩
        rw [← List.drop_drop]; exact h2
      · rename_i tt c
        simp only [o2_eq, on3_eq, ob_some, Option.some.injEq, Prod.mk.injEq] at h
        obtain ⟨r, hs, ⟨r', S1⟩, hm, rfl, rfl⟩ := h
        have hbr := hbr.untype
        simp only [BR] at hbr
        obtain ⟨arr, el, fz, rfl, hsz, _, hv⟩ := hbr
        obtain ⟨rfl, hl, _⟩ := sub_some hs
        have t1 := freeze_tran rfl hr pr hb ho hsz hv
        have hrel : VRP E ((c.drop off).take (len * z)) ((arr.toList.drop (E.sh n)).drop off) := VRP.take _ (VRP.drop _ hv)
        obtain ⟨E2, h2, hl2, hn2, t2⟩ := ih _ _ _ _ _ _ w hm (VRP.mono t1.ext _ _ hrel) t1.hr t1.pr
        refine ⟨E2, ?_, hn2, t1.trans t2⟩
        simp only [VR] at hx ⊢
        obtain ⟨_, k, rfl, hlk, _⟩ := hx
        refine .inl ⟨_, _, none, k, rfl, hlk, .inr ⟨rfl, arr, t2.ext.prot _ _ (if_pos rfl), ?_⟩⟩
        rw [← List.drop_drop]; exact h2
      · rename_i c
        simp only [o2_eq, on3_eq, ob_some, Option.some.injEq, Prod.mk.injEq] at h
        obtain ⟨r, hs, ⟨r', S1⟩, hm, rfl, rfl⟩ := h
        simp only [BR] at hbr
        obtain ⟨arr, el, fz, rfl, hsz, hp, hv⟩ := hbr
        obtain ⟨rfl, hl, _⟩ := sub_some hs
        have hrel : VRP E ((c.drop off).take (len * z)) ((arr.toList.drop (E.sh n)).drop off) := VRP.take _ (VRP.drop _ hv)
        obtain ⟨E2, h2, hl2, hn2, t2⟩ := ih _ _ _ _ _ _ w hm hrel hr pr
        refine ⟨E2, ?_, hn2, t2⟩
        simp only [VR] at hx ⊢
        obtain ⟨_, k, rfl, hlk, _⟩ := hx
        refine .inl ⟨_, _, none, k, rfl, hlk, .inr ⟨rfl, arr, t2.ext.prot _ _ hp, ?_⟩⟩
        rw [← List.drop_drop]; exact h2
      · cases h
      · cases h
    · rename_i n off
      rw [ob_some] at h
      obtain ⟨b, hb, h⟩ := h
      obtain ⟨_, o, ho, hbr⟩ := hr.blk n b hb
      split at h
      · rename_i c
        simp only [o2_eq, on3_eq, ob_some, Option.some.injEq, Prod.mk.injEq] at h
        obtain ⟨⟨r', S1⟩, hm, rfl, rfl⟩ := h
        simp only [BR] at hbr
        obtain ⟨arr, el, fz, rfl, hsz, _, hv⟩ := hbr
        have t1 := freeze_tran rfl hr pr hb ho hsz hv
        obtain ⟨E2, h2, hl2, hn2, t2⟩ := ih _ _ _ _ _ _ w hm (VRP.mono t1.ext _ _ (VRP.drop off hv)) t1.hr t1.pr
        refine ⟨E2, ?_, hn2, t1.trans t2⟩
        simp only [VR] at hx ⊢
        obtain ⟨_, rfl⟩ := hx
        refine ⟨_, _, rfl, arr, t2.ext.prot _ _ (if_pos rfl), ?_⟩
        rw [← List.drop_drop]; exact h2
      · rename_i tt c
        simp only [o2_eq, on3_eq, ob_some, Option.some.injEq, Prod.mk.injEq] at h
        obtain ⟨⟨r', S1⟩, hm, rfl, rfl⟩ := h
        have hbr := hbr.untype
        simp only [BR] at hbr
        obtain ⟨arr, el, fz, rfl, hsz, _, hv⟩ := hbr
        have t1 := freeze_tran rfl hr pr hb ho hsz hv
        obtain ⟨E2, h2, hl2, hn2, t2⟩ := ih _ _ _ _ _ _ w hm (VRP.mono t1.ext _ _ (VRP.drop off hv)) t1.hr t1.pr
        refine ⟨E2, ?_, hn2, t1.trans t2⟩
        simp only [VR] at hx ⊢
        obtain ⟨_, rfl⟩ := hx
        refine ⟨_, _, rfl, arr, t2.ext.prot _ _ (if_pos rfl), ?_⟩
        rw [← List.drop_drop]; exact h2
      · rename_i c
        simp only [o2_eq, on3_eq, ob_some, Option.some.injEq, Prod.mk.injEq] at h
        obtain ⟨⟨r', S1⟩, hm, rfl, rfl⟩ := h
        simp only [BR] at hbr
        obtain ⟨arr, el, fz, rfl, hsz, hp, hv⟩ := hbr
        obtain ⟨E2, h2, hl2, hn2, t2⟩ := ih _ _ _ _ _ _ w hm (VRP.drop off hv) hr pr
        refine ⟨E2, ?_, hn2, t2⟩
        simp only [VR] at hx ⊢
        obtain ⟨_, rfl⟩ := hx
        refine ⟨_, _, rfl, arr, t2.ext.prot _ _ hp, ?_⟩
        rw [← List.drop_drop]; exact h2
      · cases h
      · cases h
    · simp only [o2_eq, on3_eq, ob_some, Option.some.injEq, Prod.mk.injEq] at h
      obtain ⟨⟨r', S1⟩, hm, rfl, rfl⟩ := h
      simp only [VR] at hx
      obtain ⟨a, rfl, h1, h2⟩ := hx
      obtain ⟨E2, h3, hl2, hn2, t2⟩ := ih _ _ _ _ _ _ w hm h1 hr pr
      exact ⟨E2, by simp only [VR]; exact ⟨a, rfl, h3, by omega⟩, hn2, t2⟩
    · simp only [o2_eq, on3_eq, ob_some, Option.some.injEq, Prod.mk.injEq] at h
      obtain ⟨⟨r', S1⟩, hm, rfl, rfl⟩ := h
      simp only [VR] at hx
      obtain ⟨a, rfl, h1, h2⟩ := hx
      obtain ⟨E2, h3, hl2, hn2, t2⟩ := ih _ _ _ _ _ _ w hm h1 hr pr
      exact ⟨E2, by simp only [VR]; exact ⟨a, rfl, h3, by omega⟩, hn2, t2⟩
    · simp only [o2_eq, on3_eq, ob_some, Option.some.injEq, Prod.mk.injEq] at h
      obtain ⟨⟨q, S1⟩, hm, ⟨r, S2⟩, hm2, rfl, rfl⟩ := h
      simp only [VR] at hx
      obtain ⟨a, c, rfl, ⟨h1, h2⟩, h3, h4⟩ := hx
      obtain ⟨E1, a1, l1, n1, t1⟩ := ih _ _ _ _ _ _ w hm h1 hr pr
      obtain ⟨E2, a2, l2, n2, t2⟩ := ih _ _ _ _ _ _ w hm2 (VRP.mono t1.ext _ _ h3) t1.hr t1.pr
      rw [n1] at n2 t2
      refine ⟨E2, ?_, n2, t1.trans t2⟩
      simp only [VR]
      exact ⟨a, c, rfl, ⟨VRP.mono t2.ext.ice _ _ a1, by omega⟩, a2, by omega⟩
    · simp only [o2_eq, on3_eq, ob_some, Option.some.injEq, Prod.mk.injEq] at h
      obtain ⟨⟨q, S1⟩, hm, rfl, rfl⟩ := h
      simp only [VR] at hx
      obtain ⟨a, rfl, h1⟩ := hx
      obtain ⟨E2, h3, hn2, t2⟩ := frz_ok f _ _ _ w _ _ _ hm h1 hr pr
      exact ⟨E2, by simp only [VR]; exact ⟨a, rfl, h3⟩, hn2, t2⟩
    · cases h
      simp only [VR] at hx
      subst hx
      exact ⟨E, by simp [VR], rfl, Tran.refl _ hr pr⟩
    · cases h
    · cases h
    · rename_i h1 h2 h3 h4 h5 h6 h7 h8 h9
      cases h
      refine ⟨E, ?_, rfl, Tran.refl _ hr pr⟩
      cases x <;> first | exact hx | (exfalso; first | exact h1 _ _ _ _ _ rfl | exact h2 _ _ rfl | exact h3 _ rfl | exact h4 _ rfl | exact h5 _ _ _ rfl | exact h6 _ _ rfl | exact h7 rfl | exact h8 _ rfl | exact h9 _ _ _ rfl)

/-- one freezing that may leave names -/
def FrzOk2 (g : St → AV → Option (AV × St)) : Prop :=
  ∀ (E : Gh) (S S' : St) (w : World) (x y : AV) (v : Value), g S x = some (y, S') → VR E x v → HR E S.heap.get w → PR E w →
    ∃ E', VR E' y v ∧ S'.next = S.next ∧ Tran E S.heap.get w S.next E' S'.heap.get w S.next
theorem mapS_ok2 {g : St → AV → Option (AV × St)} (hg : FrzOk2 g) : ∀ (xs ys : List AV) (vs : List Value) (E : Gh) (S S' : St) (w : World), mapS g S xs = some (ys, S') → VRP E xs vs → HR E S.heap.get w → PR E w →
    ∃ E', VRP E' ys vs ∧ ys.length = xs.length ∧ S'.next = S.next ∧ Tran E S.heap.get w S.next E' S'.heap.get w S.next
  | [], ys, vs, E, S, S', w, h, _, hr, pr => by
    simp only [mapS, Option.some.injEq, Prod.mk.injEq] at h
    obtain ⟨rfl, rfl⟩ := h
    exact ⟨E, VRP.nil, rfl, rfl, Tran.refl _ hr pr⟩
  | x :: xs, ys, [], E, S, S', w, _, hv, _, _ => by simp only [VRP] at hv
  | x :: xs, ys, v :: vs, E, S, S', w, h, hv, hr, pr => by
    simp only [mapS, o2_eq, on3_eq, ob_some, Option.some.injEq, Prod.mk.injEq] at h
    obtain ⟨⟨y, S1⟩, h1, ⟨ys', S2⟩, h2, rfl, rfl⟩ := h
    rw [VRP.cons_iff] at hv
    obtain ⟨E1, hy, hn1, t1⟩ := hg E S S1 w x y v h1 hv.1 hr pr
    obtain ⟨E2, hys, hl, hn2, t2⟩ := mapS_ok2 hg xs ys' vs E1 S1 S2 w h2 (VRP.mono t1.ext _ _ hv.2) t1.hr t1.pr
    rw [hn1] at t2 hn2
    exact ⟨E2, VRP.cons_iff.2 ⟨VR.mono t2.ext _ _ hy, hys⟩, by simp [hl], hn2, t1.trans t2⟩
theorem frzK_ok : FrzOk2 frzK := by
  intro E S S' w x y v h hx hr pr
  unfold frzK at h
  split at h
  · obtain ⟨E', h1, h2, h3⟩ := frz_ok _ E S S' w _ y v h hx hr pr
    exact ⟨E', VR.mono (Ext.ofIce E') _ _ h1, h2, h3⟩
  · cases h
    exact ⟨E, hx, rfl, Tran.refl _ hr pr⟩
theorem frzS_ok : FrzOk2 frzS := by
  intro E S S' w x y v h hx hr pr
  simp only [frzS, Option.some.injEq, Prod.mk.injEq] at h
  obtain ⟨rfl, rfl⟩ := h
  exact ⟨E, hx, rfl, Tran.refl _ hr pr⟩
theorem frzT_ok (b : Bool) : FrzOk2 (frzT b) := by
  cases b with
  | false => exact frzS_ok
  | true =>
    intro E S S' w x y v h hx hr pr
    obtain ⟨E', h1, h2, h3⟩ := frz_ok _ E S S' w _ y v h hx hr pr
    exact ⟨E', VR.mono (Ext.ofIce E') _ _ h1, h2, h3⟩
theorem frzP_ok : ∀ (xs ys : List (Nat × AV)) (vs : List (Nat × Value)) (E : Gh) (S S' : St) (w : World), frzP S xs = some (ys, S') → PartsR E xs vs → HR E S.heap.get w → PR E w →
    ∃ E', PartsR E' ys vs ∧ S'.next = S.next ∧ Tran E S.heap.get w S.next E' S'.heap.get w S.next
  | [], ys, vs, E, S, S', w, h, hv, hr, pr => by
    simp only [frzP, Option.some.injEq, Prod.mk.injEq] at h
    obtain ⟨rfl, rfl⟩ := h
    exact ⟨E, hv, rfl, Tran.refl _ hr pr⟩
  | x :: xs, ys, [], E, S, S', w, _, hv, _, _ => by simp only [PartsR] at hv
  | x :: xs, ys, v :: vs, E, S, S', w, h, hv, hr, pr => by
    simp only [frzP, o2_eq, on3_eq, ob_some, Option.some.injEq, Prod.mk.injEq] at h
    obtain ⟨⟨y, S1⟩, h1, ⟨ys', S2⟩, h2, rfl, rfl⟩ := h
    simp only [PartsR] at hv ⊢
    obtain ⟨E1, hy, hn1, t1⟩ := frzT_ok true E S S1 w x.2 y v.2 h1 hv.2.1 hr pr
    obtain ⟨E2, hys, hn2, t2⟩ := frzP_ok xs ys' vs E1 S1 S2 w h2 (PartsR.mono t1.ext _ _ hv.2.2) t1.hr t1.pr
    rw [hn1] at t2 hn2
    exact ⟨E2, ⟨hv.1, VR.mono t2.ext _ _ hy, hys⟩, hn2, t1.trans t2⟩
theorem frzM_ok (m : Nat → Bool) : ∀ (xs ys : List AV) (i : Nat) (vs : List Value) (E : Gh) (S S' : St) (w : World), frzM m i S xs = some (ys, S') → VRP E xs vs → HR E S.heap.get w → PR E w →
    ∃ E', VRP E' ys vs ∧ ys.length = xs.length ∧ S'.next = S.next ∧ Tran E S.heap.get w S.next E' S'.heap.get w S.next
  | [], ys, i, vs, E, S, S', w, h, _, hr, pr => by
    simp only [frzM, Option.some.injEq, Prod.mk.injEq] at h
    obtain ⟨rfl, rfl⟩ := h
    exact ⟨E, VRP.nil, rfl, rfl, Tran.refl _ hr pr⟩
  | x :: xs, ys, i, [], E, S, S', w, _, hv, _, _ => by simp only [VRP] at hv
  | x :: xs, ys, i, v :: vs, E, S, S', w, h, hv, hr, pr => by
    simp only [frzM, o2_eq, on3_eq, ob_some, Option.some.injEq, Prod.mk.injEq] at h
    obtain ⟨⟨y, S1⟩, h1, ⟨ys', S2⟩, h2, rfl, rfl⟩ := h
    rw [VRP.cons_iff] at hv
    obtain ⟨E1, hy, hn1, t1⟩ := frzT_ok (m i) E S S1 w x y v h1 hv.1 hr pr
    obtain ⟨E2, hys, hl, hn2, t2⟩ := frzM_ok m xs ys' (i + 1) vs E1 S1 S2 w h2 (VRP.mono t1.ext _ _ hv.2) t1.hr t1.pr
    rw [hn1] at t2 hn2
    exact ⟨E2, VRP.cons_iff.2 ⟨VR.mono t2.ext _ _ hy, hys⟩, by simp [hl], hn2, t1.trans t2⟩
theorem fzArgs_ok {g : FuncId} {xs ys : List AV} {vs : List Value} (h : fzArgs g S xs = some (ys, S')) (hv : VRP E xs vs) (hr : HR E S.heap.get w) (pr : PR E w) :
    ∃ E', VRP E' ys vs ∧ ys.length = xs.length ∧ S'.next = S.next ∧ Tran E S.heap.get w S.next E' S'.heap.get w S.next := by
  unfold fzArgs at h
  split at h
  · simp only [Option.some.injEq, Prod.mk.injEq] at h
    obtain ⟨rfl, rfl⟩ := h
    exact ⟨E, hv, rfl, rfl, Tran.refl _ hr pr⟩
  · exact frzM_ok _ _ _ _ _ _ _ _ _ h hv hr pr
theorem flat_VR {E E' : Gh} {q : AV} {v : Value} (hf : flat q = true) (h : VR E q v) : VR E' q v := by
  cases q <;> simp only [flat, Bool.false_eq_true] at hf <;> exact h
theorem flat_VRP {E E' : Gh} : ∀ (l : List AV) (vs : List Value), l.all flat = true → VRP E l vs → VRP E' l vs
  | [], _, _, _ => VRP.nil
  | _ :: _, [], _, h => by simp only [VRP] at h
  | x :: l, v :: vs, hf, h => by
    rw [List.all_cons, Bool.and_eq_true] at hf
    rw [VRP.cons_iff] at h ⊢
    exact ⟨flat_VR hf.1 h.1, flat_VRP l vs hf.2 h.2⟩
theorem flatT_VR {E E' : Gh} {b : Bool} {q : AV} {v : Value} (hf : (flat q || (b && flatT q)) = true) (h : VR E q v) : VR E' q v := by
  rw [Bool.or_eq_true, Bool.and_eq_true] at hf
  rcases hf with hf | ⟨_, hf⟩
  · exact flat_VR hf h
  · cases q <;> simp only [flatT, Bool.false_eq_true] at hf
    simp only [VR] at h ⊢
    obtain ⟨a, h1, h2, h3⟩ := h
    exact ⟨a, h1, flat_VRP _ _ hf h2, h3⟩

theorem append_does {t u : TypeId} {x y z : AV} {xv yv : Value} (ty : TypeId) {ue : TE} (hue : te P u = some ue) (hui : ∀ k, ue.und ≠ .int k) (h : appendA P S t x y = some (z, S')) (hx : VR E x xv) (hy : VR E y yv)
    (hr : HR E S.heap.get w) (pr : PR E w) (fresh : ∀ n, S.next ≤ n → n < S'.next → ¬ E.dom n) : DoesV P (Builtin.append_ #[t, u] ty #[xv, yv]) E S w z S' := by
  simp only [appendA, o2_eq, on3_eq, ob_some, chk_some, Bool.and_eq_true, nbeq_iff] at h
  obtain ⟨e, he, elem, hel, g, hg, _, ⟨hgz, hgn⟩, new, hnew, m, hm, _, hone, h⟩ := h
  obtain ⟨us, hfirst, hlen, hrel, hus, hnl⟩ := src_rel (P := P) hnew hm hy hr pr
  exact grow_does (P := P) ty hue hui he hel hg hgz hgn hfirst hlen hrel hus hnl hone h hx hr pr fresh

theorem min_bc (a b : Nat) : bc (Nat.ble a b) a b = Nat.min a b := by
  by_cases h : a ≤ b
  · rw [nble_iff.2 h, bc_true]; exact (Nat.min_eq_left h).symm
  · have hb : Nat.ble a b = false := by
      cases hb : Nat.ble a b with
      | false => rfl
      | true => exact absurd (nble_iff.1 hb) h
    rw [hb, bc_false]; exact (Nat.min_eq_right (by omega)).symm

theorem trunc_rel {n m : Nat} {x y : AV} {v : Value} (h : truncA n x = some y) (hm : lenOfA x = some m) (hn : n ≤ m) (hx : VR E x v) : ∃ v', VR E y v' ∧ (lenOfA y = some n ∨ (y = .nils ∧ n = 0)) ∧
    (∀ size, Builtin.firstCells size n v = Builtin.firstCells size n v') ∧ (Builtin.lenOf v).run P w = .ok m w := by
  cases x <;> simp only [truncA, Option.some.injEq, reduceCtorEq] at h
  case nils =>
    subst h
    simp only [lenOfA, Option.some.injEq] at hm
    simp only [VR] at hx
    subst hx hm
    exact ⟨_, by simp only [VR], .inr ⟨rfl, by omega⟩, fun _ => rfl, rfl⟩
  case ms b o l c z =>
    subst h
    simp only [lenOfA, Option.some.injEq] at hm
    subst hm
    simp only [VR] at hx
    obtain ⟨d, k, rfl, h1, h2⟩ := hx
    exact ⟨.slice (some ⟨E.blk b, E.sh b + o, none⟩) n k, by simp only [VR]; exact ⟨d, k, rfl, by omega, h2⟩, .inl rfl, fun _ => rfl, rfl⟩
  case fs cs l =>
    subst h
    simp only [lenOfA, Option.some.injEq] at hm
    subst hm
    simp only [VR] at hx
    rcases hx with ⟨b, o, sp, c, rfl, h1, h2⟩ | ⟨rfl, rfl, rfl⟩
    · exact ⟨.slice (some ⟨b, o, sp⟩) n c, by simp only [VR]; exact .inl ⟨b, o, sp, c, rfl, by omega, h2⟩, .inl rfl, fun _ => rfl, rfl⟩
    · obtain rfl : n = 0 := by omega
      exact ⟨.slice none 0 0, by simp [VR], .inl rfl, fun _ => rfl, rfl⟩

theorem copy_does {t u : TypeId} {x y z : AV} {xv yv : Value} (ty : TypeId) (h : copyA P S t x y = some (z, S')) (hx : VR E x xv) (hy : VR E y yv)
    (hr : HR E S.heap.get w) (pr : PR E w) : DoesV P (Builtin.copy_ #[t, u] ty #[xv, yv]) E S w z S' := by
  simp only [copyA, o2_eq, on3_eq, ob_some, chk_some, min_bc] at h
  obtain ⟨e, he, elem, hel, g, hg, dl, hdl, sl, hsl, y', hy', new, hnew, _, hone, h⟩ := h
  have hle : Nat.min sl dl ≤ sl := Nat.min_le_left _ _
  obtain ⟨yv', hyv, hln, hfc, hlen⟩ := trunc_rel (P := P) (w := w) hy' hsl hle hy
  have hln : lenOfA y' = some (Nat.min sl dl) := by
    rcases hln with h | ⟨rfl, h⟩
    · exact h
    · rw [h]; rfl
  obtain ⟨us, hfirst, _, hrel, hus, hnl⟩ := src_rel (P := P) hnew hln hyv hr pr
  generalize hn : Nat.min sl dl = n at *
  have hund := sliceOf_some hel
  unfold copyTo at h
  split at h
  · simp only [Option.some.injEq, Prod.mk.injEq] at h
    obtain ⟨rfl, rfl⟩ := h
    simp only [lenOfA, Option.some.injEq] at hdl
    simp only [VR] at hx
    subst hx hdl
    refine DoesV.same hr pr (v' := goInt n) ?_ (by simp only [VR]; rfl)
    simp only [Builtin.copy_, List.getElem?_toArray, List.getElem?_cons_zero, List.getElem?_cons_succ, Sem.run_bind, r_und he, hund, Result.andThen_ok, r_size hg, Sem.run_pure, hlen, hn, hfc, hfirst w rfl]
  · rename_i cs
    simp only [Option.some.injEq, Prod.mk.injEq] at h
    obtain ⟨rfl, rfl⟩ := h
    simp only [lenOfA, Option.some.injEq] at hdl
    subst hdl
    obtain rfl : n = 0 := by rw [← hn]; exact Nat.min_zero _
    obtain rfl : us = #[] := by apply Array.eq_empty_of_size_eq_zero; omega
    have hx : ∃ b c, xv = .slice b 0 c := by
      simp only [VR] at hx
      rcases hx with ⟨b, o, sp, c, rfl, _⟩ | ⟨_, _, rfl⟩
      · exact ⟨_, _, rfl⟩
      · exact ⟨_, _, rfl⟩
    obtain ⟨b, c, rfl⟩ := hx
    refine DoesV.same hr pr (v' := goInt 0) ?_ (by simp only [VR]; rfl)
    cases b with
    | none => simp only [Builtin.copy_, List.getElem?_toArray, List.getElem?_cons_zero, List.getElem?_cons_succ, Sem.run_bind, r_und he, hund, Result.andThen_ok, r_size hg, Sem.run_pure, hlen, hn, hfc, hfirst w rfl]; rfl
    | some a => simp only [Builtin.copy_, List.getElem?_toArray, List.getElem?_cons_zero, List.getElem?_cons_succ, Sem.run_bind, r_und he, hund, Result.andThen_ok, r_size hg, Sem.run_pure, hlen, hn, hfc, hfirst w rfl]; rfl
  · rename_i b off l c z'
    simp only [o2_eq, on3_eq, ob_some, chk_some, nbeq_iff, Option.some.injEq, Prod.mk.injEq] at h
    obtain ⟨_, rfl, cs, hcs, r, ho, rfl, rfl⟩ := h
    simp only [lenOfA, Option.some.injEq] at hdl
    subst hdl
    simp only [VR] at hx
    obtain ⟨d, k, rfl, h1, h2⟩ := hx
    obtain ⟨w', hrun, ht⟩ := over_does (P := P) (h' := (S.heap.put b (.cells r)).get) hcs ho hrel (by simpa using hus) hone hr pr (fun m => by rw [Tr.get_put]) S.next
    refine ⟨goInt n, w', E, ?_, by simp only [VR]; rfl, ht⟩
    simp only [Builtin.copy_, List.getElem?_toArray, List.getElem?_cons_zero, List.getElem?_cons_succ, Sem.run_bind, r_und he, hund, Result.andThen_ok, r_size hg, Sem.run_pure, hlen, hn, hfc, hfirst w rfl, hrun]
  · cases h

theorem data_does {x v : AV} {xv : Value} (ts : Array TypeId) (ty : TypeId) (h : dataA x = some v) (hx : VR E x xv) (hr : HR E S.heap.get w) (pr : PR E w) : DoesV P (Builtin.unsafeSliceData_ ts ty #[xv]) E S w v S := by
  unfold dataA at h
  split at h
  · rename_i n off len cap z
    cases h
    simp only [VR] at hx
    obtain ⟨d, c, rfl, h1, _⟩ := hx
    exact DoesV.same hr pr (Lib.run_unsafeSliceData_row w ts ty _ _ c (by omega)) (by simp only [VR]; exact ⟨d, trivial⟩)
  · cases h

theorem loadBytes_rel : ∀ {cs : List AV} {bs : List UInt8} {us : List Value} {a : Addr} (acc : ByteArray), bytesOfA cs = some bs → VRP E cs us → cs.length ≤ us.length → (∀ j u, us[j]? = some u → w.cell? (a.add j) = some u) →
    (loadBytes a acc cs.length).run P w = .ok ⟨acc.data ++ bs.toArray⟩ w
  | [], bs, us, a, acc, h, _, _, _ => by
    cases h
    simp [loadBytes]
  | x :: cs, bs, [], a, acc, _, _, hl, _ => by simp at hl
  | x :: cs, bs, u :: us, a, acc, h, hv, hl, hc => by
    unfold bytesOfA at h
    split at h
    · cases ‹_ :: _ = []›
    · rename_i n r heq
      injection heq with e1 e2
      subst e1 e2
      simp only [o2_eq, on3_eq, ob_some, Option.some.injEq] at h
      obtain ⟨bs, hb, rfl⟩ := h
      obtain ⟨h1, h2⟩ := VRP.cons_iff.1 hv
      simp only [VR] at h1
      subst h1
      have h0 : w.cell? a = some (.int .u8 n) := by
        have := hc 0 _ rfl
        simpa [Addr.add] using this
      have ih := loadBytes_rel (a := a.add 1) (acc.push (UInt8.ofNat n.toNat)) hb h2 (by simpa using hl) (fun j y hy => by
        have := hc (j + 1) y (by simpa using hy)
        have e : (a.add 1).add j = a.add (j + 1) := by
          unfold Addr.add
          by_cases hj : j = 0
          · subst hj; simp
          · simp [hj]; omega
        rw [e]; exact this)
      have hx : n.toNat.toUInt8 = UInt8.ofNat n.toNat := rfl
      simp only [List.length_cons, loadBytes, Sem.run_bind, run_load, h0, Result.andThen, hx]
      rw [ih]
      congr 1
      apply ByteArray.ext
      simp [ByteArray.push]
    · cases h

theorem ustr_does {pt it ty : TypeId} {x y v : AV} {xv yv : Value} (h : ustrA P S pt x y = some (v, S')) (hx : VR E x xv) (hy : VR E y yv) (hr : HR E S.heap.get w) (pr : PR E w) : DoesV P (Builtin.unsafeString_ #[pt, it] ty #[xv, yv]) E S w v S' := by
  unfold ustrA at h
  split at h
  · rename_i n m
    rw [ob_some] at h
    obtain ⟨e, he, h⟩ := h
    split at h
    · rename_i el hd
      simp only [o2_eq, on3_eq, ob_some, chk_some, Bool.and_eq_true, nbeq_iff, nblt_iff, nble_iff, Option.some.injEq, Prod.mk.injEq] at h
      obtain ⟨cs, hcs, _, ⟨⟨⟨⟨ht, hc1⟩, hm0⟩, hm1⟩, hm2⟩, bs, hbs, rfl, rfl⟩ := h
      obtain ⟨arr, fz, hw, h0, _, _, hv⟩ := typed_obj ht hcs hr
      have hl := hv.len
      simp at hl
      simp only [VR] at hx hy
      obtain ⟨dn, rfl⟩ := hx
      subst hy
      obtain ⟨b, hb, hbm, _⟩ := cellsOf_some hcs
      have hlt := hr.lt hb
      have hwf : ∃ o, (w.freeze ⟨E.blk n, 0, none⟩ m).heap = w.heap.setIfInBounds (E.blk n) o ∧ Env w (w.freeze ⟨E.blk n, 0, none⟩ m) := by
        unfold World.freeze
        rw [if_neg (by omega)]
        refine ⟨.cells arr el (if fz.1 == fz.2 then (0, 0 + m) else (min fz.1 0, max fz.2 (0 + m))), ?_, rfl, rfl, rfl⟩
        · dsimp only
          apply Array.ext_getElem?
          intro i
          rw [Array.getElem?_modify, Array.getElem?_setIfInBounds]
          by_cases ei : E.blk n = i
          · rw [if_pos ei, if_pos ei, ← ei, hw, if_pos hlt]
            rfl
          · rw [if_neg ei, if_neg ei]
      obtain ⟨o, hfo, henv⟩ := hwf
      refine ⟨.string ⟨bs.toArray⟩, w.freeze ⟨E.blk n, 0, none⟩ m, E, ?_, by simp only [VR], Tran.drop S.next hr pr hb hbm hfo henv (fun k => by rw [Tr.get_del])⟩
      have hlb := loadBytes_rel (P := P) (E := E) (w := w) (a := ⟨E.blk n, 0, none⟩) (us := arr.toList) ByteArray.empty hbs (VRP.take m hv) (by simp; omega) (fun j u hu => by
        rw [add_mk, Nat.zero_add, cell_at hw]
        simpa using hu)
      have e0 : (⟨E.blk n, E.sh n + 0, none⟩ : Addr) = ⟨E.blk n, 0, none⟩ := by rw [h0]
      rw [e0]
      have hml : (cs.take m).length = m := by rw [List.length_take]; omega
      rw [hml] at hlb
      have hlies := Lib.liesAt_bytes (P := P) hc1 (arr.size / P.cellsOf el) m (by rw [hc1]; simp; omega)
      have hdef : Builtin.unsafeString_ #[pt, it] ty #[.pointer (some ⟨E.blk n, 0, none⟩), .int .i64 (Int.ofNat m)] =
          (do
            let n0 ← asInt (.int .i64 (Int.ofNat m))
            if n0 < 0 then runtimePanic (.error "unsafe.String: len out of range")
            if n0 > IntKind.i64.max then unsupported (.unsafePointer "String: a length above the largest int")
            if n0 = 0 then pure (.string .empty)
            else if ← variablesAt ⟨E.blk n, 0, none⟩ (← elemOf pt) n0.toNat then do
              let s ← loadBytes ⟨E.blk n, 0, none⟩ .empty n0.toNat
              freeze ⟨E.blk n, 0, none⟩ n0.toNat
              pure (.string s)
            else unsupported (.unsafePointer "String: not so many bytes at ptr")) := rfl
      rw [hdef]
      have hmax : IntKind.i64.max = 9223372036854775807 := rfl
      have hneg : ¬ ((m : Int) < 0) := by omega
      have h63 : ¬ (9223372036854775807 : Int) < (m : Int) := by unfold big at hm2; omega
      have hm0' : ¬ m = 0 := by omega
      obtain ⟨_, _, up, _⟩ := te_some he
      rw [hd] at up
      simp [asInt, asIntOf, hmax, h63, hneg, hm0', variablesAt, shape_of hw, elemOf, run_underlying up, hlies, hlb]
    · cases h
  · cases h

/-! the rest of a run -/
def XR : X → Exit → Prop
  | .n, e => e = .normal
  | .e id, e => e = .exit id
  | .r, e => e = .ret

def RecOk (P : Program) (rec : RunT) : Prop :=
  ∀ nt c T S rs, rec nt c T S = some rs → ∀ E a w, TR E nt T.get a → HR E S.heap.get w → PR E w → (∀ r ∈ rs, ∀ n, S.next ≤ n → n < r.2.2.next → ¬ E.dom n) → a.defers = [] →
    c.wp P (fun e a' w' => ∃ r ∈ rs, ∃ E', XR r.1 e ∧ TR E' nt r.2.1.get a' ∧ a'.defers = [] ∧ Tran E S.heap.get w S.next E' r.2.2.heap.get w' r.2.2.next) a w
theorem same_sames : (∀ a b : AV, same a b = true → a = b) ∧ (∀ a b : List AV, sames a b = true → a = b) := by
  have main : ∀ n : Nat, (∀ a b : AV, SizeOf.sizeOf a ≤ n → same a b = true → a = b) ∧ (∀ a b : List AV, SizeOf.sizeOf a ≤ n → sames a b = true → a = b) := by
    intro n
    induction n with
    | zero =>
      refine ⟨fun a b hn h => ?_, fun a b hn h => ?_⟩
      · cases a <;> simp at hn
      · cases a <;> simp at hn
    | succ n ih =>
      refine ⟨fun a b hn h => ?_, fun a b hn h => ?_⟩
      · cases a <;> cases b <;> simp only [same, Bool.false_eq_true, Bool.and_eq_true, decide_eq_true_eq, beq_iff_eq, nbeq_iff] at h
        case bool.bool => rw [h]
        case int.int => rw [h.1, h.2]
        case str.str => rw [h]
        case nilp.nilp => rfl
        case mp.mp => rw [h.1, h.2]
        case pa.pa => obtain ⟨⟨rfl, rfl⟩, rfl⟩ := h; rfl
        case fp.fp => rw [ih.2 _ _ (by simp at hn; omega) h]
        case nils.nils => rfl
        case ms.ms => obtain ⟨⟨⟨⟨rfl, rfl⟩, rfl⟩, rfl⟩, rfl⟩ := h; rfl
        case fs.fs => rw [h.1, ih.2 _ _ (by simp at hn; omega) h.2]
        case nilm.nilm => rfl
        case map.map => rw [h]
        case nilf.nilf => rfl
        case func.func => rw [h.1.1, ih.2 _ _ (by simp at hn; omega) h.1.2, ih.2 _ _ (by simp at hn; omega) h.2]
        case nili.nili => rfl
        case iface.iface => rw [h.1, ih.1 _ _ (by simp at hn; omega) h.2]
        case agg.agg => rw [ih.2 _ _ (by simp at hn; omega) h]
        case adr.adr => obtain ⟨rfl, rfl⟩ := h; rfl
        case tup.tup => rw [ih.2 _ _ (by simp at hn; omega) h]
      · cases a <;> cases b <;> simp only [sames, Bool.false_eq_true, Bool.and_eq_true] at h
        · rfl
        · rw [ih.1 _ _ (by simp at hn; omega) h.1, ih.2 _ _ (by simp at hn; omega) h.2]
  exact ⟨fun a b => (main (SizeOf.sizeOf a)).1 a b (Nat.le_refl _), fun a b => (main (SizeOf.sizeOf a)).2 a b (Nat.le_refl _)⟩

theorem mapO_mem {α β : Type} {f : α → Option β} : ∀ {l : List α} {rs : List β}, mapO f l = some rs → ∀ r ∈ rs, ∃ x ∈ l, f x = some r
  | [], rs, h, r, hr => by cases h; cases hr
  | x :: xs, rs, h, r, hr => by
    simp only [mapO, o2_eq, on3_eq, ob_some, Option.some.injEq] at h
    obtain ⟨y, hy, ys, hys, rfl⟩ := h
    rcases List.mem_cons.1 hr with rfl | hr
    · exact ⟨x, by simp, hy⟩
    · obtain ⟨z, hz, e⟩ := mapO_mem hys r hr
      exact ⟨z, by simp [hz], e⟩
theorem mapO_all {α β : Type} {f : α → Option β} : ∀ {l : List α} {rs : List β}, mapO f l = some rs → ∀ x ∈ l, ∃ r ∈ rs, f x = some r
  | [], rs, h, r, hr => by cases hr
  | x :: xs, rs, h, r, hr => by
    simp only [mapO, o2_eq, on3_eq, ob_some, Option.some.injEq] at h
    obtain ⟨y, hy, ys, hys, rfl⟩ := h
    rcases List.mem_cons.1 hr with rfl | hr
    · exact ⟨y, by simp, hy⟩
    · obtain ⟨z, hz, e⟩ := mapO_all hys r hr
      exact ⟨z, by simp [hz], e⟩
theorem catO_mem {α β : Type} {f : α → Option (List β)} : ∀ {l : List α} {rs : List β}, catO f l = some rs → ∀ r ∈ rs, ∃ x ∈ l, ∃ q, f x = some q ∧ r ∈ q
  | [], rs, h, r, hr => by cases h; cases hr
  | x :: xs, rs, h, r, hr => by
    simp only [catO, o2_eq, on3_eq, ob_some, Option.some.injEq] at h
    obtain ⟨y, hy, ys, hys, rfl⟩ := h
    rcases List.mem_append.1 hr with hr | hr
    · exact ⟨x, by simp, y, hy, hr⟩
    · obtain ⟨z, hz, e⟩ := catO_mem hys r hr
      exact ⟨z, by simp [hz], e⟩
theorem catO_all {α β : Type} {f : α → Option (List β)} : ∀ {l : List α} {rs : List β}, catO f l = some rs → ∀ x ∈ l, ∃ q, f x = some q ∧ ∀ r ∈ q, r ∈ rs
  | [], rs, h, r, hr => by cases hr
  | x :: xs, rs, h, r, hr => by
    simp only [catO, o2_eq, on3_eq, ob_some, Option.some.injEq] at h
    obtain ⟨y, hy, ys, hys, rfl⟩ := h
    rcases List.mem_cons.1 hr with rfl | hr
    · exact ⟨y, hy, fun r h => by simp [h]⟩
    · obtain ⟨q, e, hq⟩ := catO_all hys r hr
      exact ⟨q, e, fun r h => by simp [hq r h]⟩

theorem argsT_get : ∀ (vs : List AV) (i t : Nat), (argsT vs i).get t = if i ≤ t then vs[t - i]? else none
  | [], i, t => by simp [argsT]
  | v :: vs, i, t => by
    simp only [argsT, Tr.get_put, argsT_get vs (i + 1) t]
    by_cases e : t = i
    · subst e; simp
    · rw [if_neg e]
      by_cases h : i + 1 ≤ t
      · rw [if_pos h, if_pos (by omega), show t - i = (t - (i + 1)) + 1 from by omega, List.getElem?_cons_succ]
      · rw [if_neg h, if_neg (by omega)]

theorem res_run {T' : Tm} {S' : St} {nt : Nat} {a : Act} (ht : TR E nt T'.get a) (hr : HR E S'.heap.get w) (pr : PR E w) : ∀ {rs : List ResultVar} {vs : List AV}, ressA P T' S' rs = some vs →
    ∃ us : List Value, (rs.mapM fun (r : ResultVar) => match r with
      | .tmp t => pure (a.tmps.getD t undef)
      | .cell p t => do loadVar t (← asAddr (a.tmps.getD p undef))).run P w = .ok us w ∧ VRP E vs us ∧ vs.length = us.length
  | [], vs, h => by
    simp only [ressA, Option.some.injEq] at h
    subst h
    exact ⟨[], rfl, VRP.nil, rfl⟩
  | r :: rs, vs, h => by
    simp only [ressA, o2_eq, on3_eq, ob_some, Option.some.injEq] at h
    obtain ⟨v, hv, vs', hvs, rfl⟩ := h
    obtain ⟨us, h1, h2, h3⟩ := res_run ht hr pr hvs
    have get : ∀ t x, T'.get t = some x → ∃ u, a.tmps.getD t undef = u ∧ VR E x u := fun t x hx => by
      obtain ⟨u, hu, hxu⟩ := ht.2 t x hx
      exact ⟨u, by simp [Array.getD_eq_getD_getElem?, hu], hxu⟩
    unfold resA at hv
    split at hv
    · rename_i t
      obtain ⟨u, hu, hxu⟩ := get t v hv
      refine ⟨u :: us, ?_, VRP.cons_iff.2 ⟨hxu, h2⟩, by simp [h3]⟩
      rw [List.mapM_cons, Sem.run_bind]
      simp only [hu, Sem.run_pure, Result.andThen_ok, Sem.run_bind, h1]
    · rename_i p t
      simp only [o2_eq, on3_eq, ob_some] at hv
      obtain ⟨e, he, q, hq, hl⟩ := hv
      obtain ⟨u, hu, hqu⟩ := get p q hq
      obtain ⟨ad, u', rfl, hrun, hvv⟩ := load_run he hl hqu hr pr
      refine ⟨u' :: us, ?_, VRP.cons_iff.2 ⟨hvv, h2⟩, by simp [h3]⟩
      rw [List.mapM_cons, Sem.run_bind]
      have hadr : (asAddr (a.tmps.getD p undef)).run P w = .ok ad w := by rw [hu]; rfl
      simp only [Sem.run_bind, hadr, Sem.run_pure, Result.andThen_ok, hrun, h1]

theorem results_run {T' : Tm} {S' : St} {nt : Nat} {a : Act} {fn : Func} {vs : List AV} (ht : TR E nt T'.get a) (hr : HR E S'.heap.get w) (pr : PR E w) (h : ressA P T' S' fn.results.toList = some vs) :
    ∃ v, (results fn a.tmps).run P w = .ok v w ∧ VR E (tupR vs) v := by
  obtain ⟨us, h1, h2, h3⟩ := res_run ht hr pr h
  have hm : (fn.results.mapM fun (r : ResultVar) => match r with
      | .tmp t => pure (a.tmps.getD t undef)
      | .cell p t => do loadVar t (← asAddr (a.tmps.getD p undef))).run P w = .ok us.toArray w := by
    rw [Array.mapM_eq_mapM_toList, Sem.run_map, h1]; rfl
  refine ⟨if h : us.toArray.size = 1 then us.toArray[0] else .tuple us.toArray, ?_, ?_⟩
  · unfold results
    rw [Sem.run_bind]
    refine Eq.trans (congrArg (fun r : Result (Array Value) => r.andThen _) hm) ?_
    rfl
  · match vs, us, h2, h3 with
    | [x], [u], h2, _ => rw [VRP.cons_iff] at h2; exact h2.1
    | [], [], _, _ => simp only [tupR, VR]; exact ⟨#[], rfl, VRP.nil, rfl⟩
    | x :: y :: xs, u :: u' :: us, h2, h3 =>
      simp only [tupR, VR]
      exact ⟨_, by simp, h2, by simpa using h3⟩
    | [], _ :: _, _, h3 => simp at h3
    | _ :: _, [], _, h3 => simp at h3
    | [_], _ :: _ :: _, _, h3 => simp at h3
    | _ :: _ :: _, [_], _, h3 => simp at h3

/-- what a call does -/
def CallOk (P : Program) (E : Gh) (S : St) (w : World) (f : FuncId) (args : Array Value) (v : AV) (S' : St) : Prop :=
  Calls P f args w fun e w' => ∃ v' E', e = .returned v' ∧ VR E' v v' ∧ Tran E S.heap.get w S.next E' S'.heap.get w' S'.next

theorem sameMs_eq : ∀ {a b : List ME}, sameMs a b = true → a = b
  | [], [], _ => rfl
  | [], _ :: _, h => by simp [sameMs] at h
  | _ :: _, [], h => by simp [sameMs] at h
  | ⟨k, v, n⟩ :: l, ⟨k', v', n'⟩ :: m, h => by
    simp only [sameMs, Bool.and_eq_true, nbeq_iff] at h
    obtain ⟨⟨⟨h1, h2⟩, h3⟩, h4⟩ := h
    rw [same_sames.1 _ _ h1, same_sames.1 _ _ h2, h3, sameMs_eq h4]
theorem sameAB_eq {a b : AB} (h : sameAB a b = true) : a = b := by
  cases a <;> cases b <;> simp only [sameAB, Bool.false_eq_true, Bool.and_eq_true, nbeq_iff] at h
  · rw [same_sames.2 _ _ h]
  · rw [h.1, sameMs_eq h.2]
  · rw [same_sames.2 _ _ h]
  · simp only [decide_eq_true_eq] at h; obtain ⟨⟨⟨rfl, rfl⟩, rfl⟩, rfl⟩ := h; rfl
  · rw [h.1, same_sames.2 _ _ h.2]
theorem subT_get : ∀ {a t : Tr AB}, subT a t = true → ∀ (p : List Bool) (x : AB), a.getP p = some x → t.getP p = some x
  | .lf, _, _, p, x, h => by rw [Tr.getP_lf] at h; cases h
  | .nd _ _ _, .lf, h, _, _, _ => by simp [subT] at h
  | .nd l v r, .nd l' v' r', h, p, x, hx => by
    simp only [subT, Bool.and_eq_true] at h
    obtain ⟨⟨h1, h2⟩, h3⟩ := h
    cases p with
    | nil =>
      have hv : v = some x := hx
      subst hv
      show v' = some x
      cases v' with
      | none => simp [subO] at h1
      | some b => rw [sameAB_eq (a := x) (b := b) h1]
    | cons b p =>
      cases b
      · exact subT_get (a := r) (t := r') h3 p x hx
      · exact subT_get (a := l) (t := l') h2 p x hx
theorem lookR_some {rs : List ResultVar} {r : X × Tm × St} {p : AV × Nat} (h : lookR P rs S r = some p) : r.1.back = true ∧ ∃ us, ressA P r.2.1 r.2.2 rs = some us ∧ p.1 = tupR us ∧ p.2 = r.2.2.next ∧ S.next ≤ p.2 ∧ ∀ n b, S.heap.get n = some b → r.2.2.heap.get n = some b := by
  simp only [lookR, o2_eq, on3_eq, ob_some, chk_some, Bool.and_eq_true, nble_iff, Option.some.injEq] at h
  obtain ⟨_, h1, us, h2, _, ⟨⟨_, h3⟩, h4⟩, rfl⟩ := h
  exact ⟨h1, us, h2, rfl, rfl, h4, fun n b hb => subT_get h3 _ _ hb⟩
theorem looksR_some {rs : List ResultVar} : ∀ {l : List (X × Tm × St)} {p : AV × Nat}, looksR P rs S l = some p → ∀ r ∈ l, ∃ q, lookR P rs S r = some q ∧ q.1 = p.1 ∧ q.2 ≤ p.2
  | [], _, h, _, _ => by cases h
  | [r], p, h, r', hr => by
    obtain rfl := List.mem_singleton.1 hr
    exact ⟨p, h, rfl, Nat.le_refl _⟩
  | r :: r2 :: l, p, h, r', hr => by
    simp only [looksR, o2_eq, on3_eq, ob_some, chk_some, Option.some.injEq] at h
    obtain ⟨p1, h1, q, h2, _, h3, rfl⟩ := h
    have h3 := same_sames.1 _ _ h3
    have hm : p1.2 ≤ bc (Nat.ble p1.2 q.2) q.2 p1.2 ∧ q.2 ≤ bc (Nat.ble p1.2 q.2) q.2 p1.2 := by
      by_cases hle : p1.2 ≤ q.2
      · rw [nble_iff.2 hle, bc_true]; exact ⟨hle, Nat.le_refl _⟩
      · have hb : Nat.ble p1.2 q.2 = false := by
          cases hb : Nat.ble p1.2 q.2 with
          | false => rfl
          | true => exact absurd (nble_iff.1 hb) hle
        rw [hb, bc_false]; exact ⟨Nat.le_refl _, by omega⟩
    rcases List.mem_cons.1 hr with rfl | hr
    · exact ⟨p1, h1, rfl, hm.1⟩
    · obtain ⟨q', g1, g2, g3⟩ := looksR_some h2 r' hr
      exact ⟨q', g1, by rw [g2, ← h3], Nat.le_trans g3 hm.2⟩

/-- what the caller's memory was, it is -/
theorem Tran.look {E E' : Gh} {h h1 : Nat → Option AB} {w w' : World} {x y z : Nat} (hr : HR E h w) (t : Tran E h w x E' h1 w' y) (hyz : y ≤ z) (hs : ∀ n b, h n = some b → h1 n = some b) : Tran E h w x E' h w' z :=
  ⟨t.ext, Nat.le_trans t.le hyz, fun n d => (t.dom n d).imp id fun ⟨a, b⟩ => ⟨a, Nat.lt_of_lt_of_le b hyz⟩, t.hr.weaken hs, t.pr, t.size, fun n b hb => .inl ⟨b, hb⟩,
    fun n b hb _ => ⟨n, b, hb, (t.ext.blk n (hr.blk n b hb).1).symm⟩, t.frame, t.prot, t.env⟩

theorem callN_ok {rec : RunT} (hrec : RecOk P rec) {f : FuncId} {args : List AV} {vs : Array Value} {v : AV} (h : callN P rec f args S = some (v, S')) (ha : VRP E args vs.toList) (hl : args.length = vs.size)
    (hr : HR E S.heap.get w) (pr : PR E w) (fresh : ∀ n, S.next ≤ n → n < S'.next → ¬ E.dom n) : CallOk P E S w f vs v S' := by
  simp only [callN, o2_eq, on3_eq, ob_some, chk_some, nble_iff] at h
  obtain ⟨fn, hf, c, hb, _, hle, rs, hrun, h⟩ := h
  have ht : TR E fn.ntmps (argsT args 0).get { tmps := vs ++ Array.replicate (fn.ntmps - vs.size) undef, defers := [] } := by
    refine ⟨by simp; omega, fun t y hy => ?_⟩
    rw [argsT_get] at hy
    simp only [Nat.zero_le, if_true, Nat.sub_zero] at hy
    obtain ⟨u, hu, hyu⟩ := ha.get hy
    refine ⟨u, ?_, hyu⟩
    have hlt : t < vs.size := by
      have := (List.getElem?_eq_some_iff.1 hu).1
      simpa using this
    rw [Array.getElem?_append_left hlt]
    simpa using hu
  refine calls_of_wp hf hb ?_
  split at h
  rotate_left
  · cases hro : Mx.ro f <;> rw [hro] at h
    · cases h
    rw [cond_true] at h
    simp only [o2_eq, on3_eq, ob_some, Option.some.injEq, Prod.mk.injEq] at h
    obtain ⟨q, hq, rfl, rfl⟩ := h
    have hl := looksR_some hq
    refine wp_mono (hrec _ _ _ _ _ hrun E _ w ht hr pr (fun r hr n h1 h2 => by
      obtain ⟨p, hp, _, hle⟩ := hl r hr
      obtain ⟨_, _, _, _, e, _⟩ := lookR_some hp
      exact fresh n h1 (by show n < q.2; omega)) rfl) ?_
    rintro e a' w' ⟨r, hr', E', hxr, ht', hd, tr⟩
    obtain ⟨p, hp, hp1, hp2⟩ := hl r hr'
    obtain ⟨hx, us, hus, e1, e2, _, hsub⟩ := lookR_some hp
    obtain ⟨v', hres, hv'⟩ := results_run (P := P) (fn := fn) ht' tr.hr tr.pr hus
    rw [← e1, hp1] at hv'
    have tr' : Tran E S.heap.get w S.next E' S.heap.get w' q.2 := tr.look hr (by omega) hsub
    obtain ⟨x, T', S1⟩ := r
    cases x with
    | n => simp only [XR] at hxr; subst hxr; exact ⟨hd, v', hres, v', E', rfl, hv', tr'⟩
    | e id => simp [X.back] at hx
    | r => simp only [XR] at hxr; subst hxr; exact ⟨hd, v', hres, v', E', rfl, hv', tr'⟩
  rename_i r0
  obtain ⟨x, T', S1⟩ := r0
  simp only [o2_eq, on3_eq, ob_some, chk_some, Option.some.injEq, Prod.mk.injEq] at h
  obtain ⟨_, hx, us, hus, rfl, rfl⟩ := h
  refine wp_mono (hrec _ _ _ _ _ hrun E _ w ht hr pr (fun r hr => by rw [List.mem_singleton.1 hr]; exact fresh) rfl) ?_
  rintro e a' w' ⟨r, hr, E', hxr, ht', hd, tr⟩
  obtain rfl := List.mem_singleton.1 hr
  obtain ⟨v', hres, hv'⟩ := results_run (P := P) (fn := fn) ht' tr.hr tr.pr hus
  cases x with
  | n => simp only [XR] at hxr; subst hxr; exact ⟨hd, v', hres, v', E', rfl, hv', tr⟩
  | e id => simp [X.back] at hx
  | r => simp only [XR] at hxr; subst hxr; exact ⟨hd, v', hres, v', E', rfl, hv', tr⟩

theorem HR.empty (E : Gh) (w : World) : HR E (Tr.lf : Tr AB).get w := ⟨fun n b h => by simp at h, fun n b h => by simp at h, fun n m b c h => by simp at h⟩

/-- what a call on name-free arguments does: it returns v, touches nothing that was there, and what it hands back is frozen -/
def PureOk (P : Program) (f : FuncId) (args : List AV) (v : AV) : Prop :=
  ∀ (E : Gh) (w : World) (vs : Array Value), VRP E.ice args vs.toList → args.length = vs.size → PR E w →
    Calls P f vs w fun e w' => ∃ (v' : Value) (E' : Gh), e = .returned v' ∧ VR E'.ice v v' ∧ PR E'.ice w' ∧ (∀ b arr, E.prot b = some arr → E'.prot b = some arr) ∧ w.heap.size ≤ w'.heap.size ∧
      (∀ b, b < w.heap.size → w'.heap[b]? = w.heap[b]? ∧ E'.prot b = E.prot b) ∧ Env w w'

/-- the calls that are known are so -/
structure MxOk (P : Program) : Prop where
  known : ∀ f args v, Mx.x f args = some v → (∃ fn, P.funcs[f]? = some fn ∧ fn.body.isSome = true) ∧ PureOk P f args v
  tiny : ∀ f t, Mx.tn f t = true → (∃ fn, P.funcs[f]? = some fn ∧ fn.body.isSome = true) ∧
    ∀ (p : Option Addr) (n c : Nat) (g : Fn) (a b : Array Value) (w : World), n ≤ 1 → Calls P f #[.iface t (.slice p n c), .func g a b] w fun e w' => e = .returned (.tuple #[]) ∧ ∃ os : Array Obj, w' = { w with heap := w.heap ++ os }

  sorts : ∀ f t q, Mx.so f t = some q → (∃ fn, P.funcs[f]? = some fn ∧ fn.body.isSome = true) ∧
    ∀ (p : Option Addr) (n c : Nat) (g : Fn) (a b : Array Value) (w : World) (R : World → Prop), 2 ≤ n → n < 4611686018427387904 →
      (∀ os : Array Obj, Calls P q.1 #[.agg #[.func g a b, .func (.func q.2.1) #[] #[.slice p n c, typeHandle P q.2.2]], .int .i64 0, .int .i64 n, .int .i64 ((n.log2 + 1 : Nat) : Int)] { w with heap := w.heap ++ os } fun e w' => e = .returned (.tuple #[]) ∧ R w') →
      Calls P f #[.iface t (.slice p n c), .func g a b] w fun e w' => e = .returned (.tuple #[]) ∧ R w'
  externs : ∀ f args v, Mx.ex f args = some v → ∀ (E : Gh) (vs : Array Value), VRP E args vs.toList → args.length = vs.size → ∃ u, VR E v u ∧ ∀ W, (callFunc f vs).run P W = .ok (.value u) W
  swaps : ∀ s, Mx.sw s = true → ∃ gS, ∀ args W, (callFunc s args).run P W = ((Extern.ReflectliteSwapper.swap gS args).run P W).andThen fun v w' => .ok (.value v) w'

theorem PR.ice {w : World} (pr : PR E w) : PR E.ice w := ⟨fun b arr h => pr.blk b arr h, fun g v hg => pr.gl g v hg⟩

theorem pureF_ok (hx : MxOk P) {rec : RunT} (hrec : RecOk P rec) {f : FuncId} {args : List AV} {v : AV} (h : pureF P rec f args = some v) : PureOk P f args v := by
  unfold pureF at h
  split at h
  · rename_i q hq
    cases h
    exact (hx.known f args _ hq).2
  · simp only [o2_eq, on3_eq, ob_some] at h
    obtain ⟨l, h2, h⟩ := h
    split at h
    rotate_left
    · cases h
    rename_i q l
    simp only [o2_eq, on3_eq, ob_some, chk_some, Option.some.injEq] at h
    obtain ⟨_, hall, rfl⟩ := h
    have hq : ∀ x ∈ q :: l, x = q := fun x hx => by
      rcases List.mem_cons.1 hx with rfl | hx
      · rfl
      · exact (same_sames.1 _ _ ((List.all_eq_true.1 hall) x hx)).symm
    intro E w vs ha hl pr
    simp only [callM, o2_eq, on3_eq, ob_some, chk_some, nble_iff] at h2
    obtain ⟨fn, hf, c, hb, _, hle, rs, hrun, h2⟩ := h2
    refine calls_of_wp hf hb ?_
    have ht : TR E.ice fn.ntmps (argsT args 0).get { tmps := vs ++ Array.replicate (fn.ntmps - vs.size) undef, defers := [] } := by
      refine ⟨by simp; omega, fun t y hy => ?_⟩
      rw [argsT_get] at hy
      simp only [Nat.zero_le, if_true, Nat.sub_zero] at hy
      obtain ⟨u, hu, hyu⟩ := ha.get hy
      refine ⟨u, ?_, hyu⟩
      have hlt : t < vs.size := by
        have := (List.getElem?_eq_some_iff.1 hu).1
        simpa using this
      rw [Array.getElem?_append_left hlt]
      simpa using hu
    refine wp_mono (hrec _ _ _ _ _ hrun E.ice _ w ht (HR.empty E.ice w) pr.ice (fun r hr n _ _ d => d) rfl) ?_
    rintro e a' w' ⟨r, hr, E2, hxr, ht', hd, t2⟩
    obtain ⟨z, hz, e2⟩ := mapO_all h2 r hr
    simp only [o2_eq, on3_eq, ob_some, chk_some, Option.some.injEq] at e2
    obtain ⟨_, hbk, us, hus, ⟨q', S3⟩, h3, rfl⟩ := e2
    have hqq := hq _ hz
    dsimp only at hqq
    subst hqq
    obtain ⟨v', hres, hv'⟩ := results_run (P := P) (fn := fn) ht' t2.hr t2.pr hus
    obtain ⟨E3, hv3, _, t3⟩ := frz_ok _ E2 r.2.2 S3 w' (tupR us) q' v' h3 hv' t2.hr t2.pr
    have t := t2.trans2 t3 (Nat.zero_le _) (Nat.le_refl _)
    obtain ⟨x, T', S2⟩ := r
    cases x with
    | n => simp only [XR] at hxr; subst hxr; exact ⟨hd, v', hres, v', E3, rfl, hv3, t.pr.ice, t.ext.prot, t.size, fun b hb => ⟨t.frame b hb (fun n c hc => by simp at hc), t.prot b hb (fun n c hc => by simp at hc)⟩, t.env⟩
    | e id => simp [X.back] at hbk
    | r => simp only [XR] at hxr; subst hxr; exact ⟨hd, v', hres, v', E3, rfl, hv3, t.pr.ice, t.ext.prot, t.size, fun b hb => ⟨t.frame b hb (fun n c hc => by simp at hc), t.prot b hb (fun n c hc => by simp at hc)⟩, t.env⟩

theorem callP_ok (hx : MxOk P) {rec : RunT} (hrec : RecOk P rec) {f : FuncId} {args : List AV} {vs : Array Value} {v : AV} (h : callP P rec f args S = some (v, S')) (ha : VRP E args vs.toList) (hl : args.length = vs.size)
    (hr : HR E S.heap.get w) (pr : PR E w) : CallOk P E S w f vs v S' := by
  simp only [callP, o2_eq, on3_eq, ob_some, Option.some.injEq, Prod.mk.injEq] at h
  obtain ⟨⟨args', S1⟩, h1, q, h2, rfl, hS⟩ := h
  obtain ⟨E1, ha1, hl1, hn1, t1⟩ := mapS_ok (frz_ok _) _ _ _ _ _ _ w h1 ha hr pr
  refine Calls.mono (pureF_ok hx hrec h2 E1 w vs ha1 (hl1.trans hl) t1.pr) ?_
  rintro e w' ⟨v', E2, rfl, hv, hp, hpr, hsz, hfr, henv⟩
  cases hfl : (flat q || (Mx.ln f && flatT q)) with
  | true =>
    rw [hfl, cond_true] at hS
    subst hS
    have ltS : ∀ n b, S.heap.get n = some b → E.blk n < w.heap.size := fun n b hb => hr.lt hb
    refine ⟨v', E, rfl, ?_, ⟨Ext.refl E, Nat.le_refl _, fun _ d => .inl d, ⟨?_, hr.free, hr.inj⟩, ⟨?_, pr.gl⟩, hsz, fun n b hb => .inl ⟨b, hb⟩, fun n b hb _ => ⟨n, b, hb, rfl⟩,
      fun b hb _ => (hfr b hb).1, fun _ _ _ => rfl, henv⟩⟩
    · exact flatT_VR hfl hv
    · intro n b hb
      obtain ⟨d, o, ho, hbr⟩ := hr.blk n b hb
      exact ⟨d, o, by rw [← ho]; exact (hfr _ (ltS n b hb)).1, hbr⟩
    · intro b arr hb
      obtain ⟨el, fz, ho⟩ := pr.blk b arr hb
      exact ⟨el, fz, by rw [← ho]; exact (hfr b (pr.lt hb)).1⟩
  | false =>
  rw [hfl, cond_false] at hS
  have hS : S1 = S' := hS
  subst hS
  have ext : Ext E1 { E1 with prot := E2.prot } := ⟨fun _ d => d, fun _ _ => rfl, fun _ _ => rfl, fun _ _ => rfl, hpr⟩
  have lt : ∀ n b, S1.heap.get n = some b → E1.blk n < w.heap.size := fun n b hb => t1.hr.lt hb
  refine ⟨v', { E1 with prot := E2.prot }, rfl, VR.mono (Ext.iceOf (E := E2) (E' := { E1 with prot := E2.prot }) fun _ _ h => h) _ _ hv, ?_⟩
  have hn1' : S1.next = S.next := hn1
  rw [hn1']
  refine t1.trans ⟨ext, Nat.le_refl _, fun _ d => .inl d, ⟨?_, ?_, ?_⟩, ⟨fun b arr hb => hp.blk b arr hb, fun g u hg => VR.mono (Ext.iceOf (E := E2) (E' := Gh.ice { E1 with prot := E2.prot }) fun _ _ h => h) _ _ (hp.gl g u hg)⟩, hsz, fun n b hb => .inl ⟨b, hb⟩, fun n b hb _ => ⟨n, b, hb, rfl⟩,
    fun b hb _ => (hfr b hb).1, fun b hb _ => (hfr b hb).2, henv⟩
  · intro n b hb
    obtain ⟨d, o, ho, hbr⟩ := t1.hr.blk n b hb
    exact ⟨d, o, by rw [← ho]; exact (hfr _ (lt n b hb)).1, hbr.mono ext d⟩
  · intro n b hb hmut
    show E2.prot (E1.blk n) = none
    rw [(hfr _ (lt n b hb)).2]
    exact t1.hr.free n b hb hmut
  · exact t1.hr.inj

theorem tinyA_some {f : FuncId} {args : List AV} (h : tinyA f args = true) : ∃ t x g a c, args = [.iface t x, .func g a c] ∧ Mx.tn f t = true ∧ tinyS x = true := by
  unfold tinyA at h
  split at h
  · rename_i t x g a c
    simp only [Bool.and_eq_true] at h
    exact ⟨t, x, g, a, c, rfl, h.1, h.2⟩
  · cases h

theorem tinyS_rel {x : AV} {v : Value} (h : tinyS x = true) (hx : VR E x v) : ∃ p n c, v = .slice p n c ∧ n ≤ 1 := by
  unfold tinyS at h
  split at h
  · simp only [VR] at hx
    exact ⟨_, _, _, hx, Nat.zero_le _⟩
  · simp only [VR] at hx
    obtain ⟨_, c, rfl, _⟩ := hx
    exact ⟨_, _, _, rfl, nble_iff.1 h⟩
  · simp only [VR] at hx
    rcases hx with ⟨_, _, _, _, rfl, _⟩ | ⟨_, h0, rfl⟩
    · exact ⟨_, _, _, rfl, nble_iff.1 h⟩
    · exact ⟨_, _, _, rfl, Nat.zero_le _⟩
  · cases h

/-- new blocks that nobody knows of -/
theorem Tran.grows (hr : HR E S.heap.get w) (pr : PR E w) (os : Array Obj) (x : Nat) : Tran E S.heap.get w x E S.heap.get { w with heap := w.heap ++ os } x := by
  have old : ∀ b, b < w.heap.size → (w.heap ++ os)[b]? = w.heap[b]? := fun b hb => Array.getElem?_append_left hb
  refine ⟨Ext.refl E, Nat.le_refl _, fun _ d => .inl d, ⟨?_, hr.free, hr.inj⟩, ⟨?_, pr.gl⟩, by simp, fun n b hb => .inl ⟨b, hb⟩, fun n b hb _ => ⟨n, b, hb, rfl⟩,
    fun b hb _ => old b hb, fun _ _ _ => rfl, ⟨rfl, rfl, rfl⟩⟩
  · intro n b hb
    obtain ⟨d, o, ho, hbr⟩ := hr.blk n b hb
    exact ⟨d, o, by rw [← ho]; exact old _ (hr.lt hb), hbr⟩
  · intro b arr hb
    obtain ⟨el, fz, ho⟩ := pr.blk b arr hb
    exact ⟨el, fz, by rw [← ho]; exact old b (pr.lt hb)⟩

theorem VR.unit (E : Gh) : VR E (.tup []) (.tuple #[]) := by simp only [VR]; exact ⟨#[], rfl, VRP.nil, rfl⟩

theorem tiny_ok (hx : MxOk P) {f : FuncId} {args : List AV} {vs : Array Value} (h : tinyA f args = true) (ha : VRP E args vs.toList) (hl : args.length = vs.size)
    (hr : HR E S.heap.get w) (pr : PR E w) : CallOk P E S w f vs (.tup []) S := by
  obtain ⟨t, x, g, a, c, rfl, ht, hs⟩ := tinyA_some h
  obtain ⟨l⟩ := vs
  match l, ha, hl with
  | [u, v], ha, _ =>
    obtain ⟨h1, h2⟩ := VRP.cons_iff.1 ha
    have h2 := (VRP.cons_iff.1 h2).1
    simp only [VR] at h1 h2
    obtain ⟨y, rfl, hy⟩ := h1
    obtain ⟨a', c', rfl, _⟩ := h2
    obtain ⟨p, n, k, rfl, hn⟩ := tinyS_rel hs hy
    refine Calls.mono ((hx.tiny f t ht).2 p n k (.func g) a' c' w hn) ?_
    rintro e w' ⟨rfl, os, rfl⟩
    exact ⟨_, E, rfl, VR.unit E, Tran.grows hr pr os _⟩
  | [], _, hl => simp at hl
  | [_], _, hl => simp at hl
  | _ :: _ :: _ :: _, _, hl => simp at hl

theorem sortQ_some {f : FuncId} {args : List AV} {q : FuncId × List AV} (h : sortQ P f args = some q) : ∃ t n off len cap z lf la lc r, args = [.iface t (.ms n off len cap z), .func lf la lc] ∧ Mx.so f t = some r ∧ 2 ≤ len ∧ len < 4611686018427387904 ∧
    q = (r.1, [.agg [.func lf la lc, .func r.2.1 [] [.ms n off len cap z, .adr P.globals.size r.2.2]], .int .i64 0, .int .i64 len, .int .i64 ((len.log2 + 1 : Nat) : Int)]) := by
  unfold sortQ at h
  split at h
  · rename_i t n off len cap z lf la lc
    simp only [o2_eq, on3_eq, ob_some, chk_some, Bool.and_eq_true, nblt_iff, Option.some.injEq] at h
    obtain ⟨r, hr, _, ⟨h1, h2⟩, rfl⟩ := h
    exact ⟨t, n, off, len, cap, z, lf, la, lc, r, rfl, hr, h1, h2, rfl⟩
  · cases h

theorem unitR_some {x : Option (AV × St)} {v : AV} (h : unitR x = some (v, S')) : v = .tup [] ∧ x = some (.tup [], S') := by
  unfold unitR at h
  split at h
  · cases h; exact ⟨rfl, rfl⟩
  · cases h

theorem sort_ok (hx : MxOk P) {rec : RunT} (hrec : RecOk P rec) {f : FuncId} {args : List AV} {vs : Array Value} {v : AV} {q : FuncId × List AV} (hq : sortQ P f args = some q) (h : unitR (callN P rec q.1 q.2 S) = some (v, S')) (ha : VRP E args vs.toList) (hl : args.length = vs.size)
    (hr : HR E S.heap.get w) (pr : PR E w) (fresh : ∀ n, S.next ≤ n → n < S'.next → ¬ E.dom n) : CallOk P E S w f vs v S' := by
  obtain ⟨hv0, h'⟩ := unitR_some h
  clear h
  have h := h'
  clear h'
  subst hv0
  obtain ⟨t, n, off, len, cap, z, lf, la, lc, r, rfl, hso, h2, hlt, rfl⟩ := sortQ_some hq
  obtain ⟨l⟩ := vs
  match l, ha, hl with
  | [u, g], ha, _ =>
    obtain ⟨h1, hg⟩ := VRP.cons_iff.1 ha
    have hg := (VRP.cons_iff.1 hg).1
    have hg0 := hg
    simp only [VR] at h1 hg
    obtain ⟨y, rfl, hd, k, rfl, hlk, hrest⟩ := h1
    obtain ⟨a', c', rfl, _⟩ := hg
    have hslice : VR E (.ms n off len cap z) (.slice (some ⟨E.blk n, E.sh n + off, none⟩) len k) := by
      simp only [VR]; exact ⟨hd, k, rfl, hlk, hrest⟩
    refine Calls.mono ((hx.sorts f t r hso).2 _ len k (.func lf) a' c' w (fun w' => ∃ E', Tran E S.heap.get w S.next E' S'.heap.get w' S'.next) h2 hlt ?_) ?_
    · intro os
      have tr := Tran.grows hr pr os S.next
      have hcap : VR E (.func r.2.1 [] [.ms n off len cap z, .adr P.globals.size r.2.2]) (.func (.func r.2.1) #[] #[.slice (some ⟨E.blk n, E.sh n + off, none⟩) len k, typeHandle P r.2.2]) := by
        simp only [VR]
        exact ⟨#[], _, rfl, ⟨VRP.nil, rfl⟩, VRP.cons_iff.2 ⟨hslice, VRP.cons_iff.2 ⟨by simp only [VR]; rfl, VRP.nil⟩⟩, rfl⟩
      have hags : VRP E [.agg [.func lf la lc, .func r.2.1 [] [.ms n off len cap z, .adr P.globals.size r.2.2]], .int .i64 0, .int .i64 len, .int .i64 ((len.log2 + 1 : Nat) : Int)]
          (#[.agg #[.func (.func lf) a' c', .func (.func r.2.1) #[] #[.slice (some ⟨E.blk n, E.sh n + off, none⟩) len k, typeHandle P r.2.2]], .int .i64 0, .int .i64 len, .int .i64 ((len.log2 + 1 : Nat) : Int)] : Array Value).toList := by
        refine VRP.cons_iff.2 ⟨?_, VRP.cons_iff.2 ⟨by simp only [VR], VRP.cons_iff.2 ⟨by simp only [VR], VRP.cons_iff.2 ⟨by simp only [VR], VRP.nil⟩⟩⟩⟩
        simp only [VR]
        exact ⟨_, rfl, VRP.cons_iff.2 ⟨hg0, VRP.cons_iff.2 ⟨hcap, VRP.nil⟩⟩, rfl⟩
      refine Calls.mono (callN_ok (S := S) hrec h hags rfl tr.hr tr.pr fresh) ?_
      rintro e w' ⟨v', E', rfl, hv, ht⟩
      simp only [VR] at hv
      obtain ⟨a, rfl, _, hsz⟩ := hv
      have : a = #[] := Array.eq_empty_of_size_eq_zero (by simpa using hsz.symm)
      subst this
      exact ⟨rfl, E', tr.trans ht⟩
    · rintro e w' ⟨rfl, E', ht⟩
      exact ⟨_, E', rfl, VR.unit E', ht⟩
  | [], _, hl => simp at hl
  | [_], _, hl => simp at hl
  | _ :: _ :: _ :: _, _, hl => simp at hl

theorem natI_some {i : Int} {n : Nat} (h : natI i = some n) : i = (n : Int) := by
  unfold natI at h
  split at h
  · cases h; rfl
  · cases h

theorem swap_eq (gS : Bool) (i j : Int) (a : Addr) (n c : Nat) (h : Value) : Extern.ReflectliteSwapper.swap gS #[.int .i64 i, .int .i64 j, .slice (some a) n c, h] = (do
    if gS then
      if i < 0 || i ≥ n then boundsPanic .i64 i n .index
      if j < 0 || j ≥ n then boundsPanic .i64 j n .index
    else if i < 0 || i ≥ n || j < 0 || j ≥ n then Extern.ReflectliteSwapper.outOfRange
    Extern.ReflectliteSwapper.exchange (← Extern.Rtype.ofHandle h) a i.toNat j.toNat) := rfl

theorem swap_does {args : List AV} {vs : Array Value} {v : AV} (h : swapA P args S = some (v, S')) (ha : VRP E args vs.toList) (hl : args.length = vs.size) (hr : HR E S.heap.get w) (pr : PR E w) (gS : Bool) :
    v = .tup [] ∧ ∃ w', (Extern.ReflectliteSwapper.swap gS vs).run P w = .ok (.tuple #[]) w' ∧ Tran E S.heap.get w S.next E S'.heap.get w' S'.next := by
  unfold swapA at h
  split at h
  · rename_i i j n off len cap z b t
    simp only [o2_eq, on3_eq, ob_some, chk_some, nbeq_iff, Bool.and_eq_true, nblt_iff, Option.some.injEq, Prod.mk.injEq] at h
    obtain ⟨_, hb, e, he, _, hz, i', hi, j', hj, _, ⟨hil, hjl⟩, x, hx, y, hy, S1, hs1, S2, hs2, rfl, rfl⟩ := h
    refine ⟨rfl, ?_⟩
    have hi := natI_some hi
    have hj := natI_some hj
    subst hi hj hb hz
    obtain ⟨l⟩ := vs
    match l, ha, hl with
    | [a1, a2, a3, a4], ha, _ =>
      obtain ⟨h1, ha⟩ := VRP.cons_iff.1 ha
      obtain ⟨h2, ha⟩ := VRP.cons_iff.1 ha
      obtain ⟨h3, ha⟩ := VRP.cons_iff.1 ha
      have h4 := (VRP.cons_iff.1 ha).1
      simp only [VR] at h1 h2 h3 h4
      obtain ⟨_, c, rfl, _⟩ := h3
      subst h1 h2 h4
      obtain ⟨u, hu, hxu⟩ := loadVar_run he hx hr
      obtain ⟨u', hu', hyu⟩ := loadVar_run he hy hr
      obtain ⟨w1, hr1, t1⟩ := storeVar_run he hs1 hyu hr pr
      obtain ⟨w2, hr2, t2⟩ := storeVar_run he hs2 hxu t1.hr t1.pr
      refine ⟨w2, ?_, t1.trans t2⟩
      have n1 : ¬ ((i' : Int) < 0) := by omega
      have n2 : ¬ ((i' : Int) ≥ (len : Int)) := by omega
      have n3 : ¬ ((j' : Int) < 0) := by omega
      have n4 : ¬ ((j' : Int) ≥ (len : Int)) := by omega
      have pg : (Sem.program Sem.pure).run P w = .ok P w := by rw [Sem.run]; simp [Sem.run]
      have hh : (Extern.Rtype.ofHandle (.pointer (some ⟨P.globals.size, t, none⟩))).run P w = .ok t w := by
        simp [Extern.Rtype.ofHandle, handleType, program, pg]
      have ex : (Extern.ReflectliteSwapper.exchange t ⟨E.blk n, E.sh n + off, none⟩ i' j').run P w = .ok (.tuple #[]) w2 := by
        simp only [Extern.ReflectliteSwapper.exchange, Sem.run_bind, r_size he, Result.andThen_ok, add_mk, Nat.add_assoc, hu, hu', hr1, hr2, Sem.run_pure]
      rw [swap_eq]
      cases gS <;> simp [n1, n2, n3, n4, hh, ex]
    | [], _, hl => simp at hl
    | [_], _, hl => simp at hl
    | [_, _], _, hl => simp at hl
    | [_, _, _], _, hl => simp at hl
    | _ :: _ :: _ :: _ :: _ :: _, _, hl => simp at hl
  · cases h

theorem callB_ok (hx : MxOk P) {pol : FuncId → Bool} {rec : RunT} (hrec : RecOk P rec) {f : FuncId} (hsw : Mx.sw f = false) {args : List AV} {vs : Array Value} {v : AV} (h : callB pol P rec f args S = some (v, S')) (ha : VRP E args vs.toList) (hl : args.length = vs.size)
    (hr : HR E S.heap.get w) (pr : PR E w) (fresh : ∀ n, S.next ≤ n → n < S'.next → ¬ E.dom n) : CallOk P E S w f vs v S' := by
  unfold callB at h
  rw [hsw, cond_false] at h
  cases ht : tinyA f args <;> rw [ht] at h
  · rw [cond_false] at h
    split at h
    · rename_i q hq
      exact sort_ok hx hrec hq h ha hl hr pr fresh
    cases hp : pol f <;> rw [hp] at h
    · exact callN_ok hrec h ha hl hr pr fresh
    · exact callP_ok hx hrec h ha hl hr pr
  · cases h
    exact tiny_ok hx ht ha hl hr pr


/-! every operation -/
def NoNum (P : Program) : Prop := ∀ (f : FuncId) (fn : Func), P.funcs[f]? = some fn → fn.body.isSome = true → (fn.name == "runtime.NumGoroutine") = false

theorem wp_of_does {o : Oper} {a : Act} {v : AV} {next : Act → World → Prop} {Q : Exit → Act → World → Prop} (h : Does P (execOp a.eval o) E S w v S')
    (hn : ∀ v' w' E', VR E' v v' → Tran E S.heap.get w S.next E' S'.heap.get w' S'.next → next (a.put o.dst v') w') : o.wp P a w next Q := by
  obtain ⟨r, v', w', E', hrun, hr, hv, ht⟩ := h
  unfold Oper.wp
  rw [hrun]
  rcases hr with rfl | ⟨rfl, rfl⟩
  · exact hn v' w' E' hv ht
  · exact hn _ w' E' hv ht

theorem Does.unit {s : Sem Unit} {w' : World} (hrun : s.run P w = .ok () w') (ht : Tran E S.heap.get w S.next E S'.heap.get w' S'.next) : Does P (do s; pure .skip) E S w (.tup []) S' :=
  ⟨.skip, undef, w', E, by simp [hrun], .inr ⟨rfl, rfl⟩, by simp only [VR, undef]; exact ⟨#[], rfl, VRP.nil, rfl⟩, ht⟩
theorem Does.unit2 {s : Sem Unit} {w' : World} {E' : Gh} (hrun : s.run P w = .ok () w') (ht : Tran E S.heap.get w S.next E' S'.heap.get w' S'.next) : Does P (do s; pure .skip) E S w (.tup []) S' :=
  ⟨.skip, undef, w', E', by simp [hrun], .inr ⟨rfl, rfl⟩, by simp only [VR, undef]; exact ⟨#[], rfl, VRP.nil, rfl⟩, ht⟩

theorem Does.val {x : Value} {v : AV} (hr : HR E S.heap.get w) (pr : PR E w) (hv : VR E v x) : Does P (pure (.value x)) E S w v S :=
  ⟨.value x, x, w, E, rfl, .inl rfl, hv, Tran.refl _ hr pr⟩

theorem evs_rel {ρ : Operand → Value} : ∀ {xs : List Operand} {vs : List AV}, evs T xs = some vs → (∀ x ∈ xs, ∀ v, ev T x = some v → VR E v (ρ x)) → VRP E vs (xs.map ρ) ∧ vs.length = (xs.map ρ).length
  | [], vs, h, _ => by simp only [evs, Option.some.injEq] at h; subst h; exact ⟨VRP.nil, rfl⟩
  | x :: xs, vs, h, ho => by
    simp only [evs, o2_eq, on3_eq, ob_some, Option.some.injEq] at h
    obtain ⟨v, hv, vs', hvs, rfl⟩ := h
    have := evs_rel hvs (fun y hy => ho y (by simp [hy]))
    exact ⟨VRP.cons_iff.2 ⟨ho x (by simp) v hv, this.1⟩, by simpa using this.2⟩

theorem evp_rel {ρ : Operand → Value} : ∀ {xs : List (Nat × Operand)} {vs : List (Nat × AV)}, evp T xs = some vs → (∀ x ∈ xs, ∀ v, ev T x.2 = some v → VR E v (ρ x.2)) → PartsR E vs (xs.map fun (i, x) => (i, ρ x))
  | [], vs, h, _ => by simp only [evp, Option.some.injEq] at h; subst h; simp [PartsR]
  | (i, x) :: xs, vs, h, ho => by
    simp only [evp, o2_eq, on3_eq, ob_some, Option.some.injEq] at h
    obtain ⟨v, hv, vs', hvs, rfl⟩ := h
    simp only [List.map_cons, PartsR]
    exact ⟨trivial, ho (i, x) (by simp) v hv, evp_rel hvs (fun y hy => ho y (by simp [hy]))⟩

theorem max_rel {k : IntKind} : ∀ {xs : List AV} {us : List Value} {x : Int} {y : AV}, maxL k x xs = some y → VRP E xs us → xs.length = us.length → ∃ v, (us.foldlM Builtin.max2 (.int k x)).run P w = .ok v w ∧ VR E y v
  | [], [], x, y, h, _, _ => by simp only [maxL, Option.some.injEq] at h; subst h; exact ⟨_, rfl, by simp only [VR]⟩
  | [], _ :: _, _, _, _, _, hl => by simp at hl
  | _ :: _, [], _, _, _, hr, _ => by simp only [VRP] at hr
  | a :: xs, u :: us, x, y, h, hr, hl => by
    rw [VRP.cons_iff] at hr
    unfold maxL at h
    split at h
    · cases ‹_ :: _ = []›
    · rename_i k' z r heq
      cases heq
      simp only [VR] at hr
      obtain ⟨rfl, hr⟩ := hr
      obtain ⟨v, hv, hy⟩ := max_rel h hr (by simpa using hl)
      refine ⟨v, ?_, hy⟩
      rw [List.foldlM_cons, Sem.run_bind]
      simp only [Builtin.max2, Sem.run_pure, Result.andThen_ok]
      exact hv
    · cases h

theorem min_rel {k : IntKind} : ∀ {xs : List AV} {us : List Value} {x : Int} {y : AV}, minL k x xs = some y → VRP E xs us → xs.length = us.length → ∃ v, (us.foldlM Builtin.min2 (.int k x)).run P w = .ok v w ∧ VR E y v
  | [], [], x, y, h, _, _ => by simp only [minL, Option.some.injEq] at h; subst h; exact ⟨_, rfl, by simp only [VR]⟩
  | [], _ :: _, _, _, _, _, hl => by simp at hl
  | _ :: _, [], _, _, _, hr, _ => by simp only [VRP] at hr
  | a :: xs, u :: us, x, y, h, hr, hl => by
    rw [VRP.cons_iff] at hr
    unfold minL at h
    split at h
    · cases ‹_ :: _ = []›
    · rename_i k' z r heq
      cases heq
      simp only [VR] at hr
      obtain ⟨rfl, hr⟩ := hr
      obtain ⟨v, hv, hy⟩ := min_rel h hr (by simpa using hl)
      refine ⟨v, ?_, hy⟩
      rw [List.foldlM_cons, Sem.run_bind]
      simp only [Builtin.min2, Sem.run_pure, Result.andThen_ok]
      exact hv
    · cases h

end
end Go.Eng
