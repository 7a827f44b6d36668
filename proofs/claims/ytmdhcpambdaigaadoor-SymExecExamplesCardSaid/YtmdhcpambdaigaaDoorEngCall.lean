/-
  Freezing, calls, and every operation together.
-/
import Derived.Test.YtmdhcpambdaigaaDoorEngOps3
namespace Go.Eng
set_option linter.unusedSectionVars false
variable [Gl]
section
variable {P : Program} {E : Gh} {S S' : St} {w : World} {T : Tm}

/-! freezing -/
noncomputable def Gh.keep (E : Gh) (b : Nat) (arr : Array Value) : Gh := { E with prot := fun k => if k = b then some arr else E.prot k }

theorem freeze_tran {n : Nat} {b : AB} {arr : Array Value} {el : TypeId} {fz : Nat × Nat} (hr : HR E S.heap.get w) (pr : PR E w) (hb : S.heap.get n = some b)
    (hw : w.heap[E.blk n]? = some (.cells arr el fz)) : Tran E S.heap.get w S.next (E.keep (E.blk n) arr) (S.heap.del n).get w S.next := by
  have ext : Ext E (E.keep (E.blk n) arr) := ⟨fun _ h => h, fun _ _ => rfl, fun _ _ => rfl, fun _ _ => rfl, fun k a hk => by
    show (if k = E.blk n then some arr else E.prot k) = some a
    rw [if_neg (fun e => by rw [e, hr.free n b hb] at hk; cases hk)]; exact hk⟩
  have old : ∀ m c, (S.heap.del n).get m = some c → m ≠ n ∧ S.heap.get m = some c := fun m c hc => by
    rw [Tr.get_del] at hc
    by_cases e : m = n
    · rw [if_pos e] at hc; cases hc
    · rw [if_neg e] at hc; exact ⟨e, hc⟩
  refine ⟨ext, Nat.le_refl _, fun _ d => .inl d, ⟨?_, ?_, ?_⟩, ?_, Nat.le_refl _, fun m c hc => .inl ⟨c, (old m c hc).2⟩, fun m c hc _ => ⟨m, c, (old m c hc).2, rfl⟩, fun _ _ _ => rfl, ?_, Env.refl w⟩
  · intro m c hc
    obtain ⟨d, o, ho, hbr⟩ := hr.blk m c (old m c hc).2
    exact ⟨d, o, ho, hbr.mono ext d⟩
  · intro m c hc
    obtain ⟨e, hm⟩ := old m c hc
    show (if E.blk m = E.blk n then some arr else E.prot (E.blk m)) = none
    rw [if_neg (fun e' => e (hr.inj m n c b hm hb e'))]
    exact hr.free m c hm
  · intro m k c c' hc hc' e
    exact hr.inj m k c c' (old m c hc).2 (old k c' hc').2 e
  · refine ⟨?_, fun g v hg => VR.mono ext _ _ (pr.gl g v hg)⟩
    intro k a hk
    have hk' : (if k = E.blk n then some arr else E.prot k) = some a := hk
    by_cases e : k = E.blk n
    · rw [if_pos e] at hk'
      cases hk'
      exact ⟨el, fz, by rw [e]; exact hw⟩
    · rw [if_neg e] at hk'
      exact pr.blk k a hk'
  · intro k _ hk
    show (if k = E.blk n then some arr else E.prot k) = E.prot k
    rw [if_neg (fun e => hk n b hb e.symm)]

/-- one freezing -/
def FrzOk (g : St → AV → Option (AV × St)) : Prop :=
  ∀ (E : Gh) (S S' : St) (w : World) (x y : AV) (v : Value), g S x = some (y, S') → VR E x v → HR E S.heap.get w → PR E w →
    ∃ E', VR E' y v ∧ S'.next = S.next ∧ Tran E S.heap.get w S.next E' S'.heap.get w S.next

theorem mapS_ok {g : St → AV → Option (AV × St)} (hg : FrzOk g) : ∀ (xs ys : List AV) (vs : List Value) (E : Gh) (S S' : St) (w : World), mapS g S xs = some (ys, S') → VRP E xs vs → HR E S.heap.get w → PR E w →
    ∃ E', VRP E' ys vs ∧ ys.length = xs.length ∧ S'.next = S.next ∧ Tran E S.heap.get w S.next E' S'.heap.get w S.next
  | [], ys, vs, E, S, S', w, h, _, hr, pr => by
    simp only [mapS, Option.some.injEq, Prod.mk.injEq] at h
    obtain ⟨rfl, rfl⟩ := h
    exact ⟨E, VRP.nil, rfl, rfl, Tran.refl _ hr pr⟩
  | x :: xs, ys, [], E, S, S', w, _, hv, _, _ => by simp only [VRP] at hv
  | x :: xs, ys, v :: vs, E, S, S', w, h, hv, hr, pr => by
    simp only [mapS, ob_some, Option.some.injEq, Prod.mk.injEq] at h
    obtain ⟨⟨y, S1⟩, h1, ⟨ys', S2⟩, h2, rfl, rfl⟩ := h
    rw [VRP.cons_iff] at hv
    obtain ⟨E1, hy, hn1, t1⟩ := hg E S S1 w x y v h1 hv.1 hr pr
    obtain ⟨E2, hys, hl, hn2, t2⟩ := mapS_ok hg xs ys' vs E1 S1 S2 w h2 (VRP.mono t1.ext _ _ hv.2) t1.hr t1.pr
    rw [hn1] at t2 hn2
    exact ⟨E2, VRP.cons_iff.2 ⟨VR.mono t2.ext _ _ hy, hys⟩, by simp [hl], hn2, t1.trans t2⟩

theorem frz_ok : ∀ f, FrzOk (frz f)
  | 0 => by intro E S S' w x y v h; simp [frz] at h
  | f + 1 => by
    intro E S S' w x y v h hx hr pr
    have ih := mapS_ok (frz_ok f)
    unfold frz at h
    split at h
    · rename_i n off len cap z
      simp only [ob_some, Option.some.injEq, Prod.mk.injEq] at h
      obtain ⟨c, hc, r, hs, ⟨r', S1⟩, hm, rfl, rfl⟩ := h
      obtain ⟨arr, el, fz, hw, _, _, hv⟩ := hr.cells hc
      obtain ⟨rfl, hl, _⟩ := sub_some hs
      have t1 := freeze_tran hr pr (cellsOf_some hc) hw
      have hrel : VRP E ((c.drop off).take (len * z)) ((arr.toList.drop (E.sh n)).drop off) := VRP.take _ (VRP.drop _ hv)
      obtain ⟨E2, h2, hl2, hn2, t2⟩ := ih _ _ _ _ _ _ w hm (VRP.mono t1.ext _ _ hrel) t1.hr t1.pr
      refine ⟨E2, ?_, hn2, t1.trans t2⟩
      simp only [VR] at hx ⊢
      obtain ⟨_, k, rfl, hlk, _⟩ := hx
      refine ⟨_, _, k, rfl, hlk, .inr ⟨arr, t2.ext.prot _ _ (if_pos rfl), ?_⟩⟩
      rw [← List.drop_drop]; exact h2
    · rename_i n off
      simp only [ob_some, Option.some.injEq, Prod.mk.injEq] at h
      obtain ⟨c, hc, ⟨r', S1⟩, hm, rfl, rfl⟩ := h
      obtain ⟨arr, el, fz, hw, _, _, hv⟩ := hr.cells hc
      have t1 := freeze_tran hr pr (cellsOf_some hc) hw
      obtain ⟨E2, h2, hl2, hn2, t2⟩ := ih _ _ _ _ _ _ w hm (VRP.mono t1.ext _ _ (VRP.drop off hv)) t1.hr t1.pr
      refine ⟨E2, ?_, hn2, t1.trans t2⟩
      simp only [VR] at hx ⊢
      obtain ⟨_, rfl⟩ := hx
      refine ⟨_, _, rfl, arr, t2.ext.prot _ _ (if_pos rfl), ?_⟩
      rw [← List.drop_drop]; exact h2
    · simp only [ob_some, Option.some.injEq, Prod.mk.injEq] at h
      obtain ⟨⟨r', S1⟩, hm, rfl, rfl⟩ := h
      simp only [VR] at hx
      obtain ⟨a, rfl, h1, h2⟩ := hx
      obtain ⟨E2, h3, hl2, hn2, t2⟩ := ih _ _ _ _ _ _ w hm h1 hr pr
      exact ⟨E2, by simp only [VR]; exact ⟨a, rfl, h3, by omega⟩, hn2, t2⟩
    · simp only [ob_some, Option.some.injEq, Prod.mk.injEq] at h
      obtain ⟨⟨r', S1⟩, hm, rfl, rfl⟩ := h
      simp only [VR] at hx
      obtain ⟨a, rfl, h1, h2⟩ := hx
      obtain ⟨E2, h3, hl2, hn2, t2⟩ := ih _ _ _ _ _ _ w hm h1 hr pr
      exact ⟨E2, by simp only [VR]; exact ⟨a, rfl, h3, by omega⟩, hn2, t2⟩
    · cases h
      exact ⟨E, hx, rfl, Tran.refl _ hr pr⟩

/-! the rest of a run -/
def XR : X → Exit → Prop
  | .n, e => e = .normal
  | .e id, e => e = .exit id
  | .r, e => e = .ret

def RecOk (P : Program) (rec : RunT) : Prop :=
  ∀ nt c T S x T' S', rec nt c T S = some (x, T', S') → ∀ E a w, TR E nt T.get a → HR E S.heap.get w → PR E w → (∀ n, S.next ≤ n → n < S'.next → ¬ E.dom n) → a.defers = [] →
    c.wp P (fun e a' w' => ∃ E', XR x e ∧ TR E' nt T'.get a' ∧ a'.defers = [] ∧ Tran E S.heap.get w S.next E' S'.heap.get w' S'.next) a w

theorem argsT_get : ∀ (vs : List AV) (i t : Nat), (argsT vs i).get t = if i ≤ t then vs[t - i]? else none
  | [], i, t => by simp [argsT]
  | v :: vs, i, t => by
    simp only [argsT, Tr.get_put, argsT_get vs (i + 1) t]
    by_cases e : t = i
    · subst e; simp
    · rw [if_neg e]
      by_cases h : i + 1 ≤ t
      · rw [if_pos h, if_pos (by omega), show t - i = (t - (i + 1)) + 1 from by omega, List.getElem?_cons_succ]
      · rw [if_neg h, if_neg (by omega)]

theorem res_run {T' : Tm} {S' : St} {nt : Nat} {a : Act} (ht : TR E nt T'.get a) (hr : HR E S'.heap.get w) (pr : PR E w) : ∀ {rs : List ResultVar} {vs : List AV}, ressA P T' S' rs = some vs →
    ∃ us : List Value, (rs.mapM fun (r : ResultVar) => match r with
      | .tmp t => pure (a.tmps.getD t undef)
      | .cell p t => do loadVar t (← asAddr (a.tmps.getD p undef))).run P w = .ok us w ∧ VRP E vs us ∧ vs.length = us.length
  | [], vs, h => by
    simp only [ressA, Option.some.injEq] at h
    subst h
    exact ⟨[], rfl, VRP.nil, rfl⟩
  | r :: rs, vs, h => by
    simp only [ressA, ob_some, Option.some.injEq] at h
    obtain ⟨v, hv, vs', hvs, rfl⟩ := h
    obtain ⟨us, h1, h2, h3⟩ := res_run ht hr pr hvs
    have get : ∀ t x, T'.get t = some x → ∃ u, a.tmps.getD t undef = u ∧ VR E x u := fun t x hx => by
      obtain ⟨u, hu, hxu⟩ := ht.2 t x hx
      exact ⟨u, by simp [Array.getD_eq_getD_getElem?, hu], hxu⟩
    unfold resA at hv
    split at hv
    · rename_i t
      obtain ⟨u, hu, hxu⟩ := get t v hv
      refine ⟨u :: us, ?_, VRP.cons_iff.2 ⟨hxu, h2⟩, by simp [h3]⟩
      rw [List.mapM_cons, Sem.run_bind]
      simp only [hu, Sem.run_pure, Result.andThen_ok, Sem.run_bind, h1]
    · rename_i p t
      simp only [ob_some] at hv
      obtain ⟨e, he, q, hq, hl⟩ := hv
      obtain ⟨u, hu, hqu⟩ := get p q hq
      obtain ⟨ad, u', rfl, hrun, hvv⟩ := load_run he hl hqu hr pr
      refine ⟨u' :: us, ?_, VRP.cons_iff.2 ⟨hvv, h2⟩, by simp [h3]⟩
      rw [List.mapM_cons, Sem.run_bind]
      have hadr : (asAddr (a.tmps.getD p undef)).run P w = .ok ad w := by rw [hu]; rfl
      simp only [Sem.run_bind, hadr, Sem.run_pure, Result.andThen_ok, hrun, h1]

theorem results_run {T' : Tm} {S' : St} {nt : Nat} {a : Act} {fn : Func} {vs : List AV} (ht : TR E nt T'.get a) (hr : HR E S'.heap.get w) (pr : PR E w) (h : ressA P T' S' fn.results.toList = some vs) :
    ∃ v, (results fn a.tmps).run P w = .ok v w ∧ VR E (tupR vs) v := by
  obtain ⟨us, h1, h2, h3⟩ := res_run ht hr pr h
  have hm : (fn.results.mapM fun (r : ResultVar) => match r with
      | .tmp t => pure (a.tmps.getD t undef)
      | .cell p t => do loadVar t (← asAddr (a.tmps.getD p undef))).run P w = .ok us.toArray w := by
    rw [Array.mapM_eq_mapM_toList, Sem.run_map, h1]; rfl
  refine ⟨if h : us.toArray.size = 1 then us.toArray[0] else .tuple us.toArray, ?_, ?_⟩
  · unfold results
    rw [Sem.run_bind]
    refine Eq.trans (congrArg (fun r : Result (Array Value) => r.andThen _) hm) ?_
    rfl
  · match vs, us, h2, h3 with
    | [x], [u], h2, _ => rw [VRP.cons_iff] at h2; exact h2.1
    | [], [], _, _ => simp only [tupR, VR]; exact ⟨#[], rfl, VRP.nil, rfl⟩
    | x :: y :: xs, u :: u' :: us, h2, h3 =>
      simp only [tupR, VR]
      exact ⟨_, by simp, h2, by simpa using h3⟩
    | [], _ :: _, _, h3 => simp at h3
    | _ :: _, [], _, h3 => simp at h3
    | [_], _ :: _ :: _, _, h3 => simp at h3
    | _ :: _ :: _, [_], _, h3 => simp at h3

/-- what a call does -/
def CallOk (P : Program) (E : Gh) (S : St) (w : World) (f : FuncId) (args : Array Value) (v : AV) (S' : St) : Prop :=
  Calls P f args w fun e w' => ∃ v' E', e = .returned v' ∧ VR E' v v' ∧ Tran E S.heap.get w S.next E' S'.heap.get w' S'.next

theorem callN_ok {rec : RunT} (hrec : RecOk P rec) {f : FuncId} {args : List AV} {vs : Array Value} {v : AV} (h : callN P rec f args S = some (v, S')) (ha : VRP E args vs.toList) (hl : args.length = vs.size)
    (hr : HR E S.heap.get w) (pr : PR E w) (fresh : ∀ n, S.next ≤ n → n < S'.next → ¬ E.dom n) : CallOk P E S w f vs v S' := by
  simp only [callN, ob_some, chk_some, nble_iff, Option.some.injEq, Prod.mk.injEq] at h
  obtain ⟨fn, hf, c, hb, _, hle, ⟨x, T', S1⟩, hrun, _, hx, us, hus, rfl, rfl⟩ := h
  refine calls_of_wp hf hb ?_
  have ht : TR E fn.ntmps (argsT args 0).get { tmps := vs ++ Array.replicate (fn.ntmps - vs.size) undef, defers := [] } := by
    refine ⟨by simp; omega, fun t y hy => ?_⟩
    rw [argsT_get] at hy
    simp only [Nat.zero_le, if_true, Nat.sub_zero] at hy
    obtain ⟨u, hu, hyu⟩ := ha.get hy
    refine ⟨u, ?_, hyu⟩
    have hlt : t < vs.size := by
      have := (List.getElem?_eq_some_iff.1 hu).1
      simpa using this
    rw [Array.getElem?_append_left hlt]
    simpa using hu
  refine wp_mono (hrec _ _ _ _ _ _ _ hrun E _ w ht hr pr fresh rfl) ?_
  rintro e a' w' ⟨E', hxr, ht', hd, tr⟩
  obtain ⟨v', hres, hv'⟩ := results_run (P := P) (fn := fn) ht' tr.hr tr.pr hus
  cases x with
  | n => simp only [XR] at hxr; subst hxr; exact ⟨hd, v', hres, v', E', rfl, hv', tr⟩
  | e id => simp [X.back] at hx
  | r => simp only [XR] at hxr; subst hxr; exact ⟨hd, v', hres, v', E', rfl, hv', tr⟩

theorem HR.empty (E : Gh) (w : World) : HR E (Tr.lf : Tr AB).get w := ⟨fun n b h => by simp at h, fun n b h => by simp at h, fun n m b c h => by simp at h⟩

theorem callP_ok {rec : RunT} (hrec : RecOk P rec) {f : FuncId} {args : List AV} {vs : Array Value} {v : AV} (h : callP P rec f args S = some (v, S')) (ha : VRP E args vs.toList) (hl : args.length = vs.size)
    (hr : HR E S.heap.get w) (pr : PR E w) (fresh : ∀ n, S.next ≤ n → n < S'.next → ¬ E.dom n) : CallOk P E S w f vs v S' := by
  simp only [callP, ob_some, Option.some.injEq, Prod.mk.injEq] at h
  obtain ⟨⟨args', S1⟩, h1, ⟨r, S2⟩, h2, ⟨q, S3⟩, h3, rfl, rfl⟩ := h
  obtain ⟨E1, ha1, hl1, hn1, t1⟩ := mapS_ok (frz_ok _) _ _ _ _ _ _ w h1 ha hr pr
  have n3 : S3.next = S2.next := by
    have : ∀ (x y : AV) (S S' : St), frz frzFuel S x = some (y, S') → S'.next = S.next := by
      intro x y S S' hxy
      have key : ∀ (f : Nat) (x y : AV) (S S' : St), frz f S x = some (y, S') → S'.next = S.next := by
        intro f
        induction f with
        | zero => intro x y S S' h; simp [frz] at h
        | succ f ih =>
          have ihm : ∀ (xs ys : List AV) (S S' : St), mapS (frz f) S xs = some (ys, S') → S'.next = S.next := by
            intro xs
            induction xs with
            | nil => intro ys S S' h; simp only [mapS, Option.some.injEq, Prod.mk.injEq] at h; rw [← h.2]
            | cons x xs ihx =>
              intro ys S S' h
              simp only [mapS, ob_some, Option.some.injEq, Prod.mk.injEq] at h
              obtain ⟨⟨y, S1⟩, h1, ⟨ys', S2⟩, h2, rfl, rfl⟩ := h
              have a1 := ih _ _ _ _ h1
              have a2 := ihx _ _ _ h2
              simp only at a2 ⊢
              rw [a2, a1]
          intro x y S S' h
          unfold frz at h
          split at h
          · simp only [ob_some, Option.some.injEq, Prod.mk.injEq] at h
            obtain ⟨_, _, _, _, ⟨_, S1⟩, hm, rfl, rfl⟩ := h
            have := ihm _ _ _ _ hm
            exact this
          · simp only [ob_some, Option.some.injEq, Prod.mk.injEq] at h
            obtain ⟨_, _, ⟨_, S1⟩, hm, rfl, rfl⟩ := h
            have := ihm _ _ _ _ hm
            exact this
          · simp only [ob_some, Option.some.injEq, Prod.mk.injEq] at h
            obtain ⟨⟨_, S1⟩, hm, rfl, rfl⟩ := h
            exact ihm _ _ _ _ hm
          · simp only [ob_some, Option.some.injEq, Prod.mk.injEq] at h
            obtain ⟨⟨_, S1⟩, hm, rfl, rfl⟩ := h
            exact ihm _ _ _ _ hm
          · cases h; rfl
      exact key _ _ _ _ _ hxy
    exact this _ _ _ _ h3
  have hfr : ∀ n, S1.next ≤ n → n < S3.next → ¬ E1.dom n := by
    intro n a b d
    rcases t1.dom n d with d | ⟨_, d⟩
    · exact fresh n (by omega) b d
    · omega
  have key := callN_ok (S := ⟨.lf, S1.next⟩) hrec h2 ha1 (hl1.trans hl) (HR.empty E1 w) t1.pr (fun n a b => hfr n a (by omega))
  refine Calls.mono key ?_
  rintro e w' ⟨v', E2, rfl, hv2, t2⟩
  obtain ⟨E3, hv3, _, t3⟩ := frz_ok _ E2 S2 S3 w' r q v' h3 hv2 t2.hr t2.pr
  refine ⟨v', E3, rfl, hv3, ?_⟩
  have t23 := (t2.trans t3).frameRule t1.hr (fun n b hb => by simp at hb)
  rw [← n3, hn1] at t23
  refine t1.trans (t23.forget fun n b hb => ?_)
  unfold merge
  cases hS3 : S3.heap.get n with
  | none => simpa using hb
  | some c =>
    exfalso
    rcases (t2.trans t3).names n c hS3 with ⟨_, hc⟩ | ⟨hc1, hc2⟩
    · simp at hc
    · exact hfr n hc1 (by omega) (t1.hr.blk n b hb).1

theorem callA_ok {pol : FuncId → Bool} {rec : RunT} (hrec : RecOk P rec) {f : FuncId} {args : List AV} {vs : Array Value} {v : AV} (h : callA pol P rec f args S = some (v, S')) (ha : VRP E args vs.toList) (hl : args.length = vs.size)
    (hr : HR E S.heap.get w) (pr : PR E w) (fresh : ∀ n, S.next ≤ n → n < S'.next → ¬ E.dom n) : CallOk P E S w f vs v S' := by
  unfold callA at h
  cases hp : pol f <;> rw [hp] at h
  · exact callN_ok hrec h ha hl hr pr fresh
  · exact callP_ok hrec h ha hl hr pr fresh


/-! every operation -/
def NoNum (P : Program) : Prop := ∀ (f : FuncId) (fn : Func), P.funcs[f]? = some fn → fn.body.isSome = true → (fn.name == "runtime.NumGoroutine") = false

theorem wp_of_does {o : Oper} {a : Act} {v : AV} {next : Act → World → Prop} {Q : Exit → Act → World → Prop} (h : Does P (execOp a.eval o) E S w v S')
    (hn : ∀ v' w' E', VR E' v v' → Tran E S.heap.get w S.next E' S'.heap.get w' S'.next → next (a.put o.dst v') w') : o.wp P a w next Q := by
  obtain ⟨r, v', w', E', hrun, hr, hv, ht⟩ := h
  unfold Oper.wp
  rw [hrun]
  rcases hr with rfl | ⟨rfl, rfl⟩
  · exact hn v' w' E' hv ht
  · exact hn _ w' E' hv ht

theorem Does.unit {s : Sem Unit} {w' : World} (hrun : s.run P w = .ok () w') (ht : Tran E S.heap.get w S.next E S'.heap.get w' S'.next) : Does P (do s; pure .skip) E S w (.tup []) S' :=
  ⟨.skip, undef, w', E, by simp [hrun], .inr ⟨rfl, rfl⟩, by simp only [VR, undef]; exact ⟨#[], rfl, VRP.nil, rfl⟩, ht⟩

theorem Does.val {x : Value} {v : AV} (hr : HR E S.heap.get w) (pr : PR E w) (hv : VR E v x) : Does P (pure (.value x)) E S w v S :=
  ⟨.value x, x, w, E, rfl, .inl rfl, hv, Tran.refl _ hr pr⟩

theorem evs_rel {ρ : Operand → Value} : ∀ {xs : List Operand} {vs : List AV}, evs T xs = some vs → (∀ x ∈ xs, ∀ v, ev T x = some v → VR E v (ρ x)) → VRP E vs (xs.map ρ) ∧ vs.length = (xs.map ρ).length
  | [], vs, h, _ => by simp only [evs, Option.some.injEq] at h; subst h; exact ⟨VRP.nil, rfl⟩
  | x :: xs, vs, h, ho => by
    simp only [evs, ob_some, Option.some.injEq] at h
    obtain ⟨v, hv, vs', hvs, rfl⟩ := h
    have := evs_rel hvs (fun y hy => ho y (by simp [hy]))
    exact ⟨VRP.cons_iff.2 ⟨ho x (by simp) v hv, this.1⟩, by simpa using this.2⟩

theorem evp_rel {ρ : Operand → Value} : ∀ {xs : List (Nat × Operand)} {vs : List (Nat × AV)}, evp T xs = some vs → (∀ x ∈ xs, ∀ v, ev T x.2 = some v → VR E v (ρ x.2)) → PartsR E vs (xs.map fun (i, x) => (i, ρ x))
  | [], vs, h, _ => by simp only [evp, Option.some.injEq] at h; subst h; simp [PartsR]
  | (i, x) :: xs, vs, h, ho => by
    simp only [evp, ob_some, Option.some.injEq] at h
    obtain ⟨v, hv, vs', hvs, rfl⟩ := h
    simp only [List.map_cons, PartsR]
    exact ⟨trivial, ho (i, x) (by simp) v hv, evp_rel hvs (fun y hy => ho y (by simp [hy]))⟩

theorem max_rel {k : IntKind} : ∀ {xs : List AV} {us : List Value} {x : Int} {y : AV}, maxL k x xs = some y → VRP E xs us → xs.length = us.length → ∃ v, (us.foldlM Builtin.max2 (.int k x)).run P w = .ok v w ∧ VR E y v
  | [], [], x, y, h, _, _ => by simp only [maxL, Option.some.injEq] at h; subst h; exact ⟨_, rfl, by simp only [VR]⟩
  | [], _ :: _, _, _, _, _, hl => by simp at hl
  | _ :: _, [], _, _, _, hr, _ => by simp only [VRP] at hr
  | a :: xs, u :: us, x, y, h, hr, hl => by
    rw [VRP.cons_iff] at hr
    unfold maxL at h
    split at h
    · cases ‹_ :: _ = []›
    · rename_i k' z r heq
      cases heq
      simp only [VR] at hr
      obtain ⟨rfl, hr⟩ := hr
      obtain ⟨v, hv, hy⟩ := max_rel h hr (by simpa using hl)
      refine ⟨v, ?_, hy⟩
      rw [List.foldlM_cons, Sem.run_bind]
      simp only [Builtin.max2, Sem.run_pure, Result.andThen_ok]
      exact hv
    · cases h

theorem min_rel {k : IntKind} : ∀ {xs : List AV} {us : List Value} {x : Int} {y : AV}, minL k x xs = some y → VRP E xs us → xs.length = us.length → ∃ v, (us.foldlM Builtin.min2 (.int k x)).run P w = .ok v w ∧ VR E y v
  | [], [], x, y, h, _, _ => by simp only [minL, Option.some.injEq] at h; subst h; exact ⟨_, rfl, by simp only [VR]⟩
  | [], _ :: _, _, _, _, _, hl => by simp at hl
  | _ :: _, [], _, _, _, hr, _ => by simp only [VRP] at hr
  | a :: xs, u :: us, x, y, h, hr, hl => by
    rw [VRP.cons_iff] at hr
    unfold minL at h
    split at h
    · cases ‹_ :: _ = []›
    · rename_i k' z r heq
      cases heq
      simp only [VR] at hr
      obtain ⟨rfl, hr⟩ := hr
      obtain ⟨v, hv, hy⟩ := min_rel h hr (by simpa using hl)
      refine ⟨v, ?_, hy⟩
      rw [List.foldlM_cons, Sem.run_bind]
      simp only [Builtin.min2, Sem.run_pure, Result.andThen_ok]
      exact hv
    · cases h

end
end Go.Eng
