/-
  Each operation of the engine describes the model's: maps, conversions, append.
-/
import Derived.Test.YtjkdpgkpghcfbaaGreatDoorEngOps2
set_option linter.unusedSimpArgs false
set_option linter.unusedVariables false
namespace Go.Eng
set_option linter.unusedSectionVars false
variable [Gl] [Mx]
section
variable {P : Program} {E : Gh} {S S' : St} {w : World} {T : Tm} {ρ : Operand → Value}

theorem bytes_eq (a b : ByteArray) : (a == b) = true ↔ a = b := by
  obtain ⟨x⟩ := a
  obtain ⟨y⟩ := b
  constructor
  · intro h
    have e : x = y := by simpa using (show (x == y) = true from h)
    rw [e]
  · intro h
    cases h
    show (x == x) = true
    simp

/-- keys that the machine compares at once -/
def FlatK : TypeDesc → Prop
  | .struct _ => False
  | _ => True

theorem sameK_rel {d : TypeDesc} (hd : FlatK d) {k k' : AV} {v v' : Value} {b : Bool} (h : sameK d k k' = some b) (hk : VR E k v) (hk' : VR E k' v') :
    Instr.sameNow d v v' = some b ∧ (b = true → v = v' ∧ ∀ n, Instr.sameBits (n + 1) v v' = true) := by
  unfold sameK at h
  split at h
  · rename_i j a j' b'
    simp only [VR] at hk hk'
    subst hk hk'
    split at h
    · rename_i hj
      subst hj
      cases h
      refine ⟨by simp [Instr.sameNow], fun hb => ?_⟩
      have : a = b' := by simpa using hb
      subst this
      exact ⟨rfl, fun n => by simp [Instr.sameBits]⟩
    · cases h
  · rename_i a b'
    simp only [VR] at hk hk'
    subst hk hk'
    cases h
    refine ⟨by simp [Instr.sameNow], fun hb => ?_⟩
    have : a = b' := (bytes_eq _ _).1 hb
    subst this
    exact ⟨rfl, fun n => (bytes_eq _ _).2 rfl⟩
  · exact absurd hd (by simp [FlatK])
  · cases h

theorem two_rel {j l : IntKind} {a b : Int} {v : Value} (h : VR E (.agg [.int j a, .int l b]) v) : v = .agg #[.int j a, .int l b] := by
  simp only [VR] at h
  obtain ⟨arr, rfl, h1, h2⟩ := h
  obtain ⟨l'⟩ := arr
  match l', h1, h2 with
  | [x, y], h1, _ =>
    obtain ⟨hx, hy⟩ := VRP.cons_iff.1 h1
    have hy := (VRP.cons_iff.1 hy).1
    simp only [VR] at hx hy
    rw [hx, hy]
  | [], _, h2 => simp at h2
  | [_], _, h2 => simp at h2
  | _ :: _ :: _ :: _, _, h2 => simp at h2

theorem intF_some {i : Nat} {f : Field} (h : intF P i f = true) : f.offset = i ∧ f.name ≠ "_" ∧ ∃ (e : TE) (k : IntKind), te P f.type = some e ∧ e.und = .int k := by
  unfold intF at h
  simp only [Bool.and_eq_true, nbeq_iff, Bool.not_eq_true', decide_eq_false_iff_not] at h
  obtain ⟨⟨h1, h2⟩, h3⟩ := h
  refine ⟨h1, h2, ?_⟩
  split at h3
  · rename_i e he
    split at h3
    · rename_i k hk; exact ⟨e, k, he, hk⟩
    · cases h3
  · cases h3

theorem twoI_some {t : TypeId} {fs : Array Field} (h : twoI P t fs.toList = true) : ∃ f g, fs = #[f, g] ∧ intF P 0 f = true ∧ intF P 1 g = true ∧ P.stoodInHeld t = false := by
  unfold twoI at h
  simp only [Bool.and_eq_true, Bool.not_eq_true'] at h
  obtain ⟨h1, h2⟩ := h
  split at h1
  · rename_i f g hfs
    simp only [Bool.and_eq_true] at h1
    exact ⟨f, g, Array.toList_inj.1 hfs, h1.1, h1.2, h2⟩
  · cases h1

theorem int_eq {n : Nat} {u : TypeId} {e : TE} {k : IntKind} (he : te P u = some e) (hk : e.und = .int k) (j : IntKind) (a b : Int) : (Op.equalIn (n + 1) u (.int j a) (.int j b)).run P w = .ok (a == b) w := by
  rw [Op.equalIn, Sem.run_bind, r_und he, hk]
  simp

theorem part_int {u : TypeId} {e : TE} {k : IntKind} (he : te P u = some e) (hk : e.und = .int k) {arr : Array Value} {i : Nat} {v : Value} (h : arr[i]? = some v) : (part u arr i).run P w = .ok v w := by
  simp [part, r_isAgg he, hk, isAggD, h]

theorem two_eq {t : TypeId} {e : TE} {fs : Array Field} (he : te P t = some e) (hd : e.und = .struct fs) (h2 : twoI P t fs.toList = true) (j l : IntKind) (a b a' b' : Int) :
    (Op.equal t (.agg #[.int j a, .int l b]) (.agg #[.int j a', .int l b'])).run P w = .ok (a == a' && b == b') w := by
  obtain ⟨f, g, rfl, hf, hg, hs⟩ := twoI_some h2
  obtain ⟨f1, f2, ef, kf, f3, f4⟩ := intF_some hf
  obtain ⟨g1, g2, eg, kg, g3, g4⟩ := intF_some hg
  unfold Op.equal Op.maxDepth
  have pg : (Sem.program Sem.pure).run P w = .ok P w := by rw [Sem.run]; simp [Sem.run]
  rw [Op.equalIn, Sem.run_bind, r_und he, hd]
  have p1 := fun (x y : Value) => part_int (w := w) f3 f4 (arr := #[x, y]) (i := 0) (v := x) rfl
  have p2 := fun (x y : Value) => part_int (w := w) g3 g4 (arr := #[x, y]) (i := 1) (v := y) rfl
  have q1 := int_eq (P := P) (w := w) (n := 9998) f3 f4 j a a'
  have q2 := int_eq (P := P) (w := w) (n := 9998) g3 g4 l b b'
  simp only [Result.andThen_ok]
  by_cases ha : a = a'
  · subst ha
    have hb : (b == b') = true ∨ (b == b') = false := by cases (b == b') <;> simp
    rcases hb with hb | hb <;> simp [hs, f1, f2, g1, g2, p1, p2, q1, q2, hb, program, pg]
  · have ha : (a == a') = false := by simpa using ha
    simp [hs, f1, f2, g1, g2, p1, p2, q1, q2, ha, program, pg]

theorem sameS_rel {fs : Array Field} {k k' : AV} {v v' : Value} {b : Bool} (h : sameK (.struct fs) k k' = some b) (hk : VR E k v) (hk' : VR E k' v') {t : TypeId} {e : TE} (he : te P t = some e) (hd : e.und = .struct fs) (h2 : twoI P t fs.toList = true) :
    (Op.equal t v v').run P w = .ok b w ∧ (b = true → v = v' ∧ ∀ n, Instr.sameBits (n + 1) v v' = true) := by
  unfold sameK at h
  split at h
  · contradiction
  · contradiction
  · split at h
    · rename_i hj
      obtain ⟨rfl, rfl⟩ := hj
      cases h
      rw [two_rel hk, two_rel hk']
      refine ⟨two_eq he hd h2 _ _ _ _ _ _, fun hb => ?_⟩
      simp only [Bool.and_eq_true, beq_iff_eq] at hb
      obtain ⟨rfl, rfl⟩ := hb
      exact ⟨rfl, fun n => by simp [Instr.sameBits]⟩
    · cases h
  · cases h

/-- where the machine finds a key -/
def Found (E : Gh) (v : Value) (es : List ME) (fs : List MapEntry) (i : Nat) (r : Option (Nat × AV)) (q : Option (Nat × Value)) : Prop :=
  (r = none ∧ q = none) ∨ (∃ j x u e, r = some (i + j, x) ∧ q = some (i + j, u) ∧ VR E x u ∧ fs[j]? = some e ∧ e.key = v ∧ (∀ n, Instr.sameBits (n + 1) e.key v = true) ∧ ∃ m, es[j]? = some m ∧ m.born = e.born)

theorem find_flat {d : TypeDesc} (hd : FlatK d) {k : AV} {v : Value} (hk : VR E k v) : ∀ {es : List ME} {fs : List MapEntry} {i : Nat} {r : Option (Nat × AV)}, findE d k es i = some r → MR E es fs →
    ∃ q, Instr.findNow d v fs i = some q ∧ Found E v es fs i r q
  | [], [], i, r, h, _ => by
    simp only [findE, Option.some.injEq] at h
    exact ⟨none, rfl, .inl ⟨h.symm, rfl⟩⟩
  | [], _ :: _, _, _, _, hm => by simp only [MR] at hm
  | _ :: _, [], _, _, _, hm => by simp only [MR] at hm
  | e :: es, f :: fs, i, r, h, hm => by
    simp only [MR] at hm
    obtain ⟨h1, h2, h3, h4⟩ := hm
    simp only [findE, o2_eq, on3_eq, ob_some] at h
    obtain ⟨b, hb, h⟩ := h
    obtain ⟨s1, s2⟩ := sameK_rel hd hb hk h1
    cases b
    · simp only [cond_false] at h
      obtain ⟨q, hf, hq⟩ := find_flat hd hk h h4
      refine ⟨q, by simp only [Instr.findNow, s1, hf], ?_⟩
      rcases hq with hq | ⟨j, x, u, e', rfl, rfl, hx, he', hk', hs, m, hm1, hm2⟩
      · exact .inl hq
      · exact .inr ⟨j + 1, x, u, e', by rw [show i + (j + 1) = i + 1 + j from by omega], by rw [show i + (j + 1) = i + 1 + j from by omega], hx, by simpa using he', hk', hs, m, by simpa using hm1, hm2⟩
    · simp only [cond_true, Option.some.injEq] at h
      subst h
      obtain ⟨e1, e2⟩ := s2 rfl
      refine ⟨some (i, f.val), by simp only [Instr.findNow, s1], .inr ⟨0, e.val, f.val, f, rfl, rfl, h2, rfl, e1.symm, fun n => ?_, e, rfl, h3⟩⟩
      have := e2 n
      rw [e1] at this
      rw [e1]; exact this

theorem find_ask {fs0 : Array Field} {k : AV} {v : Value} (hk : VR E k v) {t : TypeId} {e0 : TE} (he : te P t = some e0) (hd : e0.und = .struct fs0) (h2 : twoI P t fs0.toList = true) : ∀ {es : List ME} {fs : List MapEntry} {i : Nat} {r : Option (Nat × AV)}, findE (.struct fs0) k es i = some r → MR E es fs →
    ∃ q, (Instr.findAsking t v fs i).run P w = .ok q w ∧ Found E v es fs i r q
  | [], [], i, r, h, _ => by
    simp only [findE, Option.some.injEq] at h
    exact ⟨none, rfl, .inl ⟨h.symm, rfl⟩⟩
  | [], _ :: _, _, _, _, hm => by simp only [MR] at hm
  | _ :: _, [], _, _, _, hm => by simp only [MR] at hm
  | e :: es, f :: fs, i, r, h, hm => by
    simp only [MR] at hm
    obtain ⟨h1, h2', h3, h4⟩ := hm
    simp only [findE, o2_eq, on3_eq, ob_some] at h
    obtain ⟨b, hb, h⟩ := h
    obtain ⟨s1, s2⟩ := sameS_rel (w := w) hb hk h1 he hd h2
    cases b
    · simp only [cond_false] at h
      obtain ⟨q, hf, hq⟩ := find_ask hk he hd h2 h h4
      refine ⟨q, by simp [Instr.findAsking, s1, hf], ?_⟩
      rcases hq with hq | ⟨j, x, u, e', rfl, rfl, hx, he', hk', hs, m, hm1, hm2⟩
      · exact .inl hq
      · exact .inr ⟨j + 1, x, u, e', by rw [show i + (j + 1) = i + 1 + j from by omega], by rw [show i + (j + 1) = i + 1 + j from by omega], hx, by simpa using he', hk', hs, m, by simpa using hm1, hm2⟩
    · simp only [cond_true, Option.some.injEq] at h
      subst h
      obtain ⟨e1, e2⟩ := s2 rfl
      refine ⟨some (i, f.val), by simp [Instr.findAsking, s1], .inr ⟨0, e.val, f.val, f, rfl, rfl, h2', rfl, e1.symm, fun n => ?_, e, rfl, h3⟩⟩
      have := e2 n
      rw [e1] at this
      rw [e1]; exact this

/-- a key is found, or it is not -/
theorem find_rel {t : TypeId} {e0 : TE} (he : te P t = some e0) {k : AV} {v : Value} (hok : keyOk P t e0.und k = true) (hk : VR E k v) {es : List ME} {fs : List MapEntry} {r : Option (Nat × AV)} (h : findE e0.und k es 0 = some r) (hm : MR E es fs) :
    ∃ q, (Instr.findKey t v fs).run P w = .ok q w ∧ Found E v es fs 0 r q := by
  have flat : FlatK e0.und → ∃ q, (Instr.findKey t v fs).run P w = .ok q w ∧ Found E v es fs 0 r q := fun hd => by
    obtain ⟨q, h1, h2⟩ := find_flat hd hk h hm
    exact ⟨q, by simp [Instr.findKey, r_und he, h1], h2⟩
  cases hd : e0.und with
  | struct fs0 =>
    have h2 : twoI P t fs0.toList = true := by
      rw [hd] at hok
      unfold keyOk at hok
      split at hok
      · contradiction
      · contradiction
      · rename_i hh
        cases hh
        exact hok
      · cases hok
    rw [hd] at h
    obtain ⟨q, h3, h4⟩ := find_ask (w := w) hk he hd h2 h hm
    refine ⟨q, ?_, h4⟩
    cases fs with
    | nil =>
      have : q = none := by
        rw [Instr.findAsking] at h3
        simpa using h3.symm
      subst this
      simp [Instr.findKey, r_und he, Instr.findNow]
    | cons f fs =>
      have : Instr.findNow (.struct fs0) v (f :: fs) 0 = none := by simp [Instr.findNow, Instr.sameNow]
      simp [Instr.findKey, r_und he, hd, this, h3]
  | _ => exact flat (by rw [hd]; trivial)

theorem keyOk_run {t : TypeId} {e : TE} (he : te P t = some e) {k : AV} {v : Value} (h : keyOk P t e.und k = true) (hk : VR E k v) (b : Bool) : (Instr.checkKey b 10000 t v).run P w = .ok () w := by
  rw [show (10000 : Nat) = 9998 + 1 + 1 from rfl, Instr.checkKey, Sem.run_bind, r_und he]
  unfold keyOk at h
  split at h
  · rename_i hd
    simp only [VR] at hk
    subst hk
    rw [hd]; rfl
  · rename_i hd
    simp only [VR] at hk
    subst hk
    rw [hd]; rfl
  · rename_i fs j a l b' hd
    obtain ⟨f, g, rfl, hf, hg, hs⟩ := twoI_some h
    obtain ⟨f1, f2, ef, kf, f3, f4⟩ := intF_some hf
    obtain ⟨g1, g2, eg, kg, g3, g4⟩ := intF_some hg
    rw [two_rel hk, hd]
    have p1 := fun (x y : Value) => part_int (w := w) f3 f4 (arr := #[x, y]) (i := 0) (v := x) rfl
    have p2 := fun (x y : Value) => part_int (w := w) g3 g4 (arr := #[x, y]) (i := 1) (v := y) rfl
    have c1 : ∀ v, (Instr.checkKey b 9999 f.type v).run P w = .ok () w := fun v => by
      rw [Instr.checkKey, Sem.run_bind, r_und f3, f4]; rfl
    have c2 : ∀ v, (Instr.checkKey b 9999 g.type v).run P w = .ok () w := fun v => by
      rw [Instr.checkKey, Sem.run_bind, r_und g3, g4]; rfl
    simp [f1, f2, g1, g2, p1, p2, c1, c2]
  · cases h

theorem VR.tup2 {a b : AV} {u v : Value} (h1 : VR E a u) (h2 : VR E b v) : VR E (.tup [a, b]) (.tuple #[u, v]) := by
  simp only [VR]
  refine ⟨_, rfl, ?_, rfl⟩
  show VRP E [a, b] [u, v]
  exact VRP.cons_iff.2 ⟨h1, VRP.cons_iff.2 ⟨h2, VRP.nil⟩⟩

theorem lookup_does {t : TypeId} {x k y : AV} {ok : Bool} {xv kv : Value} (h : lookupA P S t x k ok = some y) (hx : VR E x xv) (hk : VR E k kv) (hr : HR E S.heap.get w) (_pr : PR E w) :
    DoesR P (Instr.lookup t xv kv ok) E w y := by
  simp only [lookupA, o2_eq, on3_eq, ob_some, chk_some] at h
  obtain ⟨e, he, ⟨kt, et⟩, hke, ke, hkt, ee, het, _, hok, es, hes, r, hf, h⟩ := h
  have hund := mapOf_some hke
  obtain ⟨z, hz, hzr⟩ := r_zero het
  have fin : ∀ fs : Array MapEntry, MR E es fs.toList → ∃ u, VR E y u ∧ ∀ b, (do
        Instr.checkKey b 10000 kt kv
        let (v, ok') ← match ← Instr.findKey kt kv fs.toList with
          | some (_, v) => pure (v, true)
          | none => pure (← zeroValue et, false)
        pure (if ok then Value.tuple #[v, .bool ok'] else v) : Sem Value).run P w = .ok u w := by
    intro fs hm
    obtain ⟨q, hn, ⟨rfl, rfl⟩ | ⟨j, x', u, e', rfl, rfl, hx', _⟩⟩ := find_rel (w := w) hkt hok hk hf hm
    · cases ok
      · cases h
        exact ⟨z, cv_rel E hz, fun b => by simp [keyOk_run hkt hok hk, hn, hzr]⟩
      · cases h
        exact ⟨.tuple #[z, .bool false], VR.tup2 (cv_rel E hz) (by simp only [VR]), fun b => by simp [keyOk_run hkt hok hk, hn, hzr]⟩
    · cases ok
      · cases h
        exact ⟨u, hx', fun b => by simp [keyOk_run hkt hok hk, hn]⟩
      · cases h
        exact ⟨.tuple #[u, .bool true], VR.tup2 hx' (by simp only [VR]), fun b => by simp [keyOk_run hkt hok hk, hn]⟩
  split at hes
  · cases hes
    simp only [VR] at hx
    subst hx
    obtain ⟨u, hu, hrun⟩ := fin #[] (by simp [MR])
    refine DoesR.of ?_ hu
    have := hrun (Array.isEmpty (#[] : Array MapEntry))
    simp only [Instr.lookup, Sem.run_bind, r_und he, hund, Result.andThen_ok, Sem.run_pure] at this ⊢
    exact this
  · rename_i n
    simp only [o2_eq, on3_eq, ob_some, Option.some.injEq] at hes
    obtain ⟨⟨es', c⟩, hes', rfl⟩ := hes
    simp only [VR] at hx
    obtain ⟨_, rfl⟩ := hx
    obtain ⟨arr, ho, hm⟩ := hr.entries hes'
    obtain ⟨u, hu, hrun⟩ := fin arr hm
    refine DoesR.of ?_ hu
    have := hrun arr.isEmpty
    simp only [Instr.lookup, Sem.run_bind, r_und he, hund, Result.andThen_ok, run_getMap ho, Sem.run_pure] at this ⊢
    exact this
  · cases hes

theorem MR.modify {f : ME → ME} {g : MapEntry → MapEntry} (hfg : ∀ e e', VR E e.key e'.key → VR E e.val e'.val → e.born = e'.born → VR E (f e).key (g e').key ∧ VR E (f e).val (g e').val ∧ (f e).born = (g e').born) :
    ∀ (i : Nat) {es : List ME} {fs : List MapEntry}, MR E es fs → MR E (es.modify i f) (fs.modify i g)
  | _, [], [], _ => by simp [MR]
  | _, [], _ :: _, h => by simp only [MR] at h
  | _, _ :: _, [], h => by simp only [MR] at h
  | 0, e :: es, e' :: fs, h => by
    simp only [MR] at h
    simp only [List.modify_zero_cons, MR]
    have := hfg e e' h.1 h.2.1 h.2.2.1
    exact ⟨this.1, this.2.1, this.2.2, h.2.2.2⟩
  | i + 1, e :: es, e' :: fs, h => by
    simp only [MR] at h
    simp only [List.modify_succ_cons, MR]
    exact ⟨h.1, h.2.1, h.2.2.1, MR.modify hfg i h.2.2.2⟩

theorem MR.push : ∀ {es : List ME} {fs : List MapEntry} {e : ME} {e' : MapEntry}, MR E es fs → VR E e.key e'.key → VR E e.val e'.val → e.born = e'.born → MR E (es ++ [e]) (fs ++ [e'])
  | [], [], _, _, _, h1, h2, h3 => by simp only [List.nil_append, MR]; exact ⟨h1, h2, h3, trivial⟩
  | [], _ :: _, _, _, h, _, _, _ => by simp only [MR] at h
  | _ :: _, [], _, _, h, _, _, _ => by simp only [MR] at h
  | _ :: es, _ :: fs, e, e', h, h1, h2, h3 => by
    simp only [MR] at h
    simp only [List.cons_append, MR]
    exact ⟨h.1, h.2.1, h.2.2.1, MR.push h.2.2.2 h1 h2 h3⟩

/-- a map's block changed -/
theorem setMap_does {n : Nat} {es es' : List ME} {c c' : Nat} {arr arr' : Array MapEntry} (hes : entriesOf S n = some (es, c)) (ho : w.heap[E.blk n]? = some (.map arr c)) (hm : MR E es' arr'.toList)
    (hr : HR E S.heap.get w) (pr : PR E w) : ∃ w', (setObj (E.blk n) (.map arr' c')).run P w = .ok () w' ∧
      Tran E S.heap.get w S.next E (S.heap.put n (.map es' c')).get w' S.next := by
  refine ⟨_, run_setMap ho _, Tran.set S.next hr pr (entriesOf_some hes) rfl rfl ⟨rfl, rfl, rfl⟩ (fun m => by rw [Tr.get_put]) ?_⟩
  simp only [BR]
  exact ⟨arr', rfl, hm⟩

theorem keyStays_run {old new : Value} (h : ∀ n, Instr.sameBits (n + 1) old new = true) : (Instr.keyThatStays old new).run P w = .ok new w := by
  simp only [Instr.keyThatStays, h 9999, if_true, Sem.run_pure]

theorem mapUpd_does {t : TypeId} {x k v : AV} {xv kv vv : Value} (h : mapUpdA P S t x k v = some S') (hx : VR E x xv) (hk : VR E k kv) (hv : VR E v vv) (hr : HR E S.heap.get w) (pr : PR E w) :
    ∃ w', (Instr.mapUpdate t xv kv vv).run P w = .ok () w' ∧ Tran E S.heap.get w S.next E S'.heap.get w' S'.next := by
  simp only [mapUpdA, o2_eq, on3_eq, ob_some, chk_some] at h
  obtain ⟨e, he, ⟨kt, et⟩, hke, ke, hkt, _, hok, h⟩ := h
  have hund := mapOf_some hke
  split at h
  · rename_i n
    simp only [o2_eq, on3_eq, ob_some] at h
    obtain ⟨⟨es, c⟩, hes, r, hf, h⟩ := h
    simp only [VR] at hx
    obtain ⟨_, rfl⟩ := hx
    obtain ⟨arr, ho, hm⟩ := hr.entries hes
    obtain ⟨q, hn, ⟨rfl, rfl⟩ | ⟨j, x', u, e', rfl, rfl, hx', he', hkey, hsame, _⟩⟩ := find_rel (w := w) hkt hok hk hf hm
    · cases h
      obtain ⟨w', h1, h2⟩ := setMap_does (P := P) (es' := es ++ [⟨k, v, c⟩]) (c' := c + 1) (arr' := arr.push { key := kv, val := vv, born := c }) hes ho (by simpa using MR.push hm hk hv rfl) hr pr
      refine ⟨w', ?_, h2⟩
      simp [Instr.mapUpdate, r_und he, hund, run_getMap ho, keyOk_run hkt hok hk, hn, h1]
    · cases h
      simp only [Nat.zero_add] at hn ⊢
      have hget : arr[j]? = some e' := by simpa using he'
      obtain ⟨w', h1, h2⟩ := setMap_does (P := P) (es' := es.modify j fun e => { e with key := k, val := v }) (c' := c) (arr' := arr.modify j fun e => { e with key := kv, val := vv }) hes ho
        (by rw [Array.toList_modify]; exact MR.modify (f := fun e => { e with key := k, val := v }) (g := fun e => { e with key := kv, val := vv }) (fun e e' _ _ h3 => ⟨hk, hv, h3⟩) j hm) hr pr
      refine ⟨w', ?_, h2⟩
      simp [Instr.mapUpdate, r_und he, hund, run_getMap ho, keyOk_run hkt hok hk, hn, hget, keyStays_run hsame, h1]
  · cases h

theorem mapEnt_does {t : TypeId} {x k y : AV} {xv kv : Value} (h : mapEntA P S t x k = some (y, S')) (hx : VR E x xv) (hk : VR E k kv) (hr : HR E S.heap.get w) (pr : PR E w) :
    DoesV P (Instr.mapEntry t xv kv) E S w y S' := by
  simp only [mapEntA, o2_eq, on3_eq, ob_some, chk_some] at h
  obtain ⟨e, he, ⟨kt, et⟩, hke, ke, hkt, ee, het, _, hok, h⟩ := h
  have hund := mapOf_some hke
  obtain ⟨z, hz, hzr⟩ := r_zero het
  split at h
  · rename_i n
    simp only [o2_eq, on3_eq, ob_some] at h
    obtain ⟨⟨es, c⟩, hes, r, hf, h⟩ := h
    simp only [VR] at hx
    obtain ⟨_, rfl⟩ := hx
    obtain ⟨arr, ho, hm⟩ := hr.entries hes
    obtain ⟨q, hn, ⟨rfl, rfl⟩ | ⟨j, x', u, e', rfl, rfl, hx', he', hkey, hsame, m, hm1, hm2⟩⟩ := find_rel (w := w) hkt hok hk hf hm
    · cases h
      obtain ⟨w', h1, h2⟩ := setMap_does (P := P) (es' := es ++ [⟨k, ee.zero, c⟩]) (c' := c + 1) (arr' := arr.push { key := kv, val := z, born := c }) hes ho (by simpa using MR.push hm hk (cv_rel E hz) rfl) hr pr
      refine ⟨.tuple #[z, goInt c], w', E, ?_, ?_, h2⟩
      · simp [Instr.mapEntry, r_und he, hund, run_getMap ho, keyOk_run hkt hok hk, hn, hzr, h1]
      · exact VR.tup2 (cv_rel E hz) (by simp only [VR, goInt])
    · cases h
      simp only [Nat.zero_add] at hn ⊢
      have hget : arr[j]? = some e' := by simpa using he'
      obtain ⟨w', h1, h2⟩ := setMap_does (P := P) (es' := es.modify j fun e => { e with key := k }) (c' := c) (arr' := arr.modify j fun e => { e with key := kv }) hes ho
        (by rw [Array.toList_modify]; exact MR.modify (f := fun e => { e with key := k }) (g := fun e => { e with key := kv }) (fun e e' _ h2 h3 => ⟨hk, h2, h3⟩) j hm) hr pr
      refine ⟨.tuple #[u, goInt e'.born], w', E, ?_, ?_, h2⟩
      · simp [Instr.mapEntry, r_und he, hund, run_getMap ho, keyOk_run hkt hok hk, hn, hget, keyStays_run hsame, h1]
      · exact VR.tup2 hx' (by simp only [VR, hm1, Option.map_some, Option.getD_some, hm2, goInt])
  · cases h

theorem findIdx_rel {b : Int} : ∀ {es : List ME} {fs : List MapEntry}, MR E es fs → (es.findIdx? fun e => (e.born : Int) == b) = fs.findIdx? fun e => (e.born : Int) == b
  | [], [], _ => rfl
  | [], _ :: _, h => by simp only [MR] at h
  | _ :: _, [], h => by simp only [MR] at h
  | e :: es, e' :: fs, h => by
    simp only [MR] at h
    simp only [List.findIdx?_cons, h.2.2.1, findIdx_rel h.2.2.2]

theorem entSt_does {t : TypeId} {x s v : AV} {xv sv vv : Value} (h : entStA S x s v = some S') (hx : VR E x xv) (hs : VR E s sv) (hv : VR E v vv) (hr : HR E S.heap.get w) (pr : PR E w) :
    ∃ w', (Instr.entryStore t xv sv vv).run P w = .ok () w' ∧ Tran E S.heap.get w S.next E S'.heap.get w' S'.next := by
  unfold entStA at h
  split at h
  · rename_i n k b
    simp only [o2_eq, on3_eq, ob_some, Option.some.injEq] at h
    obtain ⟨⟨es, c⟩, hes, i, hi, rfl⟩ := h
    simp only [VR] at hx hs
    obtain ⟨_, rfl⟩ := hx
    subst hs
    obtain ⟨arr, ho, hm⟩ := hr.entries hes
    obtain ⟨w', h1, h2⟩ := setMap_does (P := P) (es' := es.modify i fun e => { e with val := v }) (c' := c) (arr' := arr.modify i fun e => { e with val := vv }) hes ho
      (by rw [Array.toList_modify]; exact MR.modify (f := fun e => { e with val := v }) (g := fun e => { e with val := vv }) (fun e e' h1 _ h3 => ⟨h1, hv, h3⟩) i hm) hr pr
    refine ⟨w', ?_, h2⟩
    rw [findIdx_rel hm] at hi
    have hi' : (arr.findIdx? fun e => (e.born : Int) == b) = some i := by rw [← hi]; cases arr; simp
    simp [Instr.entryStore, run_getMap ho, asInt, asIntOf, hi', h1]
  · cases h


/-! conversions -/
theorem src_rel {size : Nat} {x : AV} {v : Value} {cs : List AV} {n : Nat} (h : srcA S size x = some cs) (hn : lenOfA x = some n) (hx : VR E x v) (hr : HR E S.heap.get w) (pr : PR E w) :
    ∃ us : Array Value, (∀ w' : World, w'.heap = w.heap → (Builtin.firstCells size n v).run P w' = .ok us w') ∧ (Builtin.lenOf v).run P w = .ok n w ∧ VRP E cs us.toList ∧ cs.length = us.size ∧ cs.length = n * size := by
  unfold srcA at h
  split at h
  · rename_i s
    simp only [o2_eq, on3_eq, ob_some, chk_some, nbeq_iff, Option.some.injEq] at h
    obtain ⟨_, rfl, rfl⟩ := h
    simp only [lenOfA, Option.some.injEq] at hn
    subst hn
    simp only [VR] at hx
    subst hx
    refine ⟨s.data.map fun b => .int .u8 b.toNat, ?_, rfl, ?_, by simp, by rw [List.length_map, Nat.mul_one]; rfl⟩
    · intro w' _; simp only [Builtin.firstCells, Sem.run_pure, ByteArray.extract_zero_size]
    · have : ∀ l : List UInt8, VRP E (l.map fun b => AV.int .u8 b.toNat) (l.map fun b => Value.int .u8 b.toNat) := by
        intro l
        induction l with
        | nil => exact VRP.nil
        | cons b l ih => exact VRP.cons_iff.2 ⟨by simp only [VR], ih⟩
      simpa using this s.data.toList
  · cases h
    simp only [lenOfA, Option.some.injEq] at hn
    subst hn
    simp only [VR] at hx
    subst hx
    exact ⟨#[], fun _ _ => rfl, rfl, VRP.nil, rfl, by simp⟩
  · rename_i b off len cap z
    simp only [o2_eq, on3_eq, ob_some] at h
    obtain ⟨c, hc, h⟩ := h
    simp only [lenOfA, Option.some.injEq] at hn
    subst hn
    simp only [VR] at hx
    obtain ⟨_, c', rfl, _⟩ := hx
    obtain ⟨arr, el, fz, hw, _, hv⟩ := hr.reads hc
    obtain ⟨rfl, hl, hle⟩ := sub_some h
    by_cases h0 : len * size = 0
    · refine ⟨#[], fun w' _ => by simp only [Builtin.firstCells, h0]; rfl, rfl, ?_, by rw [hl, h0]; rfl, hl⟩
      rw [h0, List.take_zero]; exact VRP.nil
    · have hvl := hv.len
      simp at hvl
      refine ⟨((arr.toList.drop (E.sh b + off)).take (len * size)).toArray, ?_, rfl, ?_, ?_, hl⟩
      · intro w' hw'
        simp only [Builtin.firstCells]
        exact run_loadCells (by rw [hw']; exact hw) _ (by omega)
      · rw [← List.drop_drop]
        exact VRP.takeR _ (VRP.take _ (VRP.drop _ hv)) (by rw [hl]; exact Nat.le_refl _)
      · rw [hl]; simp; omega
  · rename_i cs' len
    simp only [lenOfA, Option.some.injEq] at hn
    subst hn
    simp only [VR] at hx
    rcases hx with ⟨b, o, sp, c', rfl, _, hcs⟩ | ⟨rfl, rfl, rfl⟩
    rotate_left
    · obtain ⟨rfl, hl, hle⟩ := sub_some h
      refine ⟨#[], fun _ _ => ?_, rfl, ?_, ?_, ?_⟩
      · simp only [Builtin.firstCells]; rfl
      · simp only [List.drop_nil, List.take_nil]; exact VRP.nil
      · simp
      · simp
    obtain ⟨rfl, hl, hle⟩ := sub_some h
    by_cases h0 : len * size = 0
    · refine ⟨#[], fun w' _ => by simp only [Builtin.firstCells, h0]; rfl, rfl, ?_, by rw [hl, h0]; rfl, hl⟩
      rw [h0, List.take_zero]; exact VRP.nil
    · rcases hcs with rfl | ⟨rfl, arr, hp, hv⟩
      · simp at hl; omega
      · obtain ⟨el, fz, hw⟩ := pr.blk b arr hp
        have hvl := hv.len
        simp at hvl
        refine ⟨((arr.toList.drop o).take (len * size)).toArray, ?_, rfl, ?_, ?_, hl⟩
        · intro w' hw'
          simp only [Builtin.firstCells]
          exact run_loadCells (by rw [hw']; exact hw) _ (by simp at hle; omega)
        · simp only [List.drop_zero]
          exact VRP.takeR _ (VRP.take _ (VRP.mono (Ext.ofIce E) _ _ hv)) (by simpa using Nat.le_of_eq hl)
        · rw [hl]; simp; simp at hle; omega
  · cases h


theorem bytes_rel (bad : ByteArray → Sem (ForInStep ByteArray)) : ∀ {cs : List AV} {us : List Value} {bs : List UInt8}, bytesOfA cs = some bs → VRP E cs us → cs.length = us.length →
    ∀ s : ByteArray, ((forIn us s fun c s =>
      match c with
      | Value.int IntKind.u8 n => pure (ForInStep.yield (s.push (UInt8.ofNat n.toNat)))
      | _ => bad s) : Sem ByteArray).run P w = .ok ⟨s.data ++ bs.toArray⟩ w
  | [], [], bs, h, _, _, s => by
    simp only [bytesOfA, Option.some.injEq] at h
    subst h
    simp
  | [], _ :: _, _, _, _, hl, _ => by simp at hl
  | _ :: _, [], _, _, hr, _, _ => by simp only [VRP] at hr
  | c :: cs, u :: us, bs, h, hr, hl, s => by
    rw [VRP.cons_iff] at hr
    unfold bytesOfA at h
    split at h
    · cases ‹_ :: _ = []›
    · rename_i n r heq
      cases heq
      simp only [o2_eq, on3_eq, ob_some, Option.some.injEq] at h
      obtain ⟨bs', hb, rfl⟩ := h
      simp only [VR] at hr
      obtain ⟨rfl, hr⟩ := hr
      rw [List.forIn_cons, Sem.run_bind]
      have := bytes_rel bad hb hr (by simpa using hl) (s.push (UInt8.ofNat n.toNat))
      simp only [Sem.run_pure, Result.andThen_ok]
      rw [this]
      simp [ByteArray.push]
    · cases h

theorem liesAt_self {e : TypeId} {c count : Nat} (hc : P.cellsOf e = c) (h0 : 0 < c) (h1 : 1 ≤ count) : liesAt P P.depth e count 0 e 1 = true := by
  have hd : P.depth = (2 * (P.types.size + Made.depth) + 1) + 1 := rfl
  rw [hd]
  simp only [liesAt, Bool.or_eq_true]
  left
  rw [hd]
  have : ¬ c = 0 := by omega
  simp [rowAt, hc, h1, sameLayout, this]

theorem shape_of {b : Nat} {arr : Array Value} {el : TypeId} {fz : Nat × Nat} (h : w.heap[b]? = some (.cells arr el fz)) : w.shape? b = some (el, arr.size) := by
  simp [World.shape?, h]

theorem typed_obj {n : Nat} {t : TypeId} {cs : List AV} (ht : typed S n t = true) (hc : cellsOf S n = some cs) (hr : HR E S.heap.get w) :
    ∃ arr fz, w.heap[E.blk n]? = some (.cells arr t fz) ∧ E.sh n = 0 ∧ E.bsz n = arr.size ∧ (∀ i, i < arr.size → (decide (fz.1 ≤ i) && decide (i < fz.2)) = false) ∧ VRP E cs arr.toList := by
  obtain ⟨b, hb, _, hk⟩ := cellsOf_some hc
  unfold typed at ht
  rw [hb] at ht
  rcases hk with rfl | ⟨u, rfl⟩
  · cases ht
  · obtain rfl : u = t := nbeq_iff.1 ht
    obtain ⟨_, o, ho, hbr⟩ := hr.blk n _ hb
    simp only [BR] at hbr
    obtain ⟨arr, fz, rfl, h0, hs, hf, hv⟩ := hbr
    exact ⟨arr, fz, ho, h0, hs, hf, by rw [h0] at hv; simpa using hv⟩

theorem convU_does {src dst : TypeId} {x y : AV} {v : Value} {s d : TE} (hs : te P src = some s) (hd : te P dst = some d) (h : convU P S s.und d.und x = some y) (hx : VR E x v) (hr : HR E S.heap.get w) (pr : PR E w) : DoesR P (convert src dst v) E w y := by
  unfold convU at h
  split at h
  · rename_i t n off h1 h2
    simp only [o2_eq, on3_eq, ob_some, chk_some, Bool.and_eq_true, Bool.not_eq_true', nblt_iff, Option.some.injEq] at h
    obtain ⟨g, hg, cs, hcs, _, ⟨hz, hlt⟩, rfl⟩ := h
    have hx0 := hx
    simp only [VR] at hx
    obtain ⟨dn, rfl⟩ := hx
    obtain ⟨arr, el, fz, hw, _, hv⟩ := hr.reads hcs
    have hl := hv.len
    simp at hl
    obtain ⟨i, hi, _, hi1, _⟩ := te_some hg
    obtain ⟨_, _, us, _⟩ := te_some hs
    obtain ⟨_, _, ud, _⟩ := te_some hd
    refine DoesR.of ?_ hx0
    exact Lib.run_to_unsafe w _ (by rw [us, h1]) (by rw [ud, h2]) hi (by rw [hi1]; intro e; rw [e] at hz; cases hz) (shape_of hw) (by show E.sh n + off < arr.size; omega)
  · rename_i u n off h1 h2
    simp only [o2_eq, on3_eq, ob_some, chk_some, Bool.and_eq_true, nbeq_iff, nblt_iff, nble_iff, Option.some.injEq] at h
    obtain ⟨g, hg, cs, hcs, _, ⟨⟨⟨rfl, ht⟩, hc0⟩, hc1⟩, rfl⟩ := h
    obtain ⟨arr, fz, hw, h0, _, _, hv⟩ := typed_obj ht hcs hr
    have hl := hv.len
    simp at hl
    have hx0 := hx
    simp only [VR] at hx
    obtain ⟨dn, rfl⟩ := hx
    obtain ⟨i, hi, _, hi1, _⟩ := te_some hg
    obtain ⟨_, _, us, _⟩ := te_some hs
    obtain ⟨_, _, ud, _⟩ := te_some hd
    refine DoesR.of ?_ hx0
    rw [h0]
    refine Lib.run_from_unsafe w _ (by rw [us, h1]) (by rw [ud, h2]) hi (shape_of hw) (liesAt_self rfl hc0 ?_)
    exact (Nat.le_div_iff_mul_le hc0).2 (by omega)
  · cases h

theorem conv_does {src dst : TypeId} {x y : AV} {v : Value} (h : convA P S src dst x = some y) (hx : VR E x v) (hr : HR E S.heap.get w) (pr : PR E w) : DoesR P (convert src dst v) E w y := by
  simp only [convA, o2_eq, on3_eq, ob_some] at h
  obtain ⟨s, hs, d, hd, h⟩ := h
  have u1 := r_und hs w
  have u2 := r_und hd w
  split at h
  · rename_i k0 k j n h1 h2
    cases h
    simp only [VR] at hx
    subst hx
    refine DoesR.of ?_ (v' := .int k (k.wrap n)) (by simp only [VR])
    rw [convert, Sem.run_bind, u1]
    simp only [Result.andThen_ok, Sem.run_bind, u2, h1, h2]
    rfl
  · rename_i b h1 h2
    cases h
    simp only [VR] at hx
    subst hx
    refine DoesR.of ?_ (v' := .string b) (by simp only [VR])
    rw [convert, Sem.run_bind, u1]
    simp only [Result.andThen_ok, Sem.run_bind, u2, h1, h2]
    rfl
  · rename_i e h1 h2
    simp only [o2_eq, on3_eq, ob_some] at h
    obtain ⟨g, hg, h⟩ := h
    have u3 := r_und hg w
    have go : ∀ (nv : Value) (hb : (Conv.bytesToString v).run P w = .ok nv w) (hk : g.und = .int .u8) (hsl : ∃ a l c, v = .slice a l c), (convert src dst v).run P w = .ok nv w := by
      intro nv hb hk hsl
      obtain ⟨a, l, c, rfl⟩ := hsl
      rw [convert, Sem.run_bind, u1]
      simp only [Result.andThen_ok, Sem.run_bind, u2, h1, h2]
      cases a <;> simp only [u3, Result.andThen_ok, hk, hb]
    have bytes : ∀ (cs : List AV) (bs : List UInt8) (len : Nat) (a : Addr) (c : Nat) (us : Array Value), v = .slice (some a) len c → (loadCells a len).run P w = .ok us w → VRP E cs us.toList → cs.length = us.size → bytesOfA cs = some bs →
        (Conv.bytesToString v).run P w = .ok (.string ⟨bs.toArray⟩) w := by
      intro cs bs len a c us hv hload hrel hl hb
      subst hv
      have := fun bad => bytes_rel (P := P) (w := w) bad hb hrel (by simpa using hl) ByteArray.empty
      simp only [Conv.bytesToString, Sem.run_bind, hload, Result.andThen_ok]
      rw [← Array.forIn_toList]
      refine Eq.trans (congrArg (fun r : Result ByteArray => r.andThen fun a w' => (pure (Value.string a) : Sem Value).run P w') (this _)) ?_
      show Result.ok (Value.string ⟨#[] ++ bs.toArray⟩) w = _
      simp
    split at h
    · rename_i hk
      cases h
      simp only [VR] at hx
      subst hx
      exact DoesR.of (go _ rfl hk ⟨_, _, _, rfl⟩) (by simp only [VR])
    · rename_i b off len c z hk
      simp only [o2_eq, on3_eq, ob_some, Option.some.injEq] at h
      obtain ⟨cs, hcs, bs, hbs, rfl⟩ := h
      obtain ⟨us, h1', _, h3, h4, _⟩ := src_rel (P := P) hcs (n := len) rfl hx hr pr
      simp only [VR] at hx
      obtain ⟨_, c', rfl, _⟩ := hx
      have h1' := h1' w rfl
      simp only [Builtin.firstCells, Nat.mul_one] at h1'
      exact DoesR.of (go _ (bytes cs bs _ _ _ us rfl h1' h3 h4 hbs) hk ⟨_, _, _, rfl⟩) (by simp only [VR])
    · rename_i cs' len hk
      simp only [o2_eq, on3_eq, ob_some, Option.some.injEq] at h
      obtain ⟨cs, hcs, bs, hbs, rfl⟩ := h
      obtain ⟨us, h1', _, h3, h4, _⟩ := src_rel (P := P) hcs (n := len) rfl hx hr pr
      simp only [VR] at hx
      rcases hx with ⟨_, _, _, c', rfl, _⟩ | ⟨rfl, rfl, rfl⟩
      rotate_left
      · simp only [srcA] at hcs
        obtain ⟨rfl, _, _⟩ := sub_some hcs
        simp only [List.drop_nil, List.take_nil, bytesOfA, Option.some.injEq] at hbs
        subst hbs
        exact DoesR.of (go _ rfl hk ⟨_, _, _, rfl⟩) (by simp only [VR]; rfl)
      have h1' := h1' w rfl
      simp only [Builtin.firstCells, Nat.mul_one] at h1'
      exact DoesR.of (go _ (bytes cs bs _ _ _ us rfl h1' h3 h4 hbs) hk ⟨_, _, _, rfl⟩) (by simp only [VR])
    · cases h
  · exact convU_does hs hd h hx hr pr


/-! append -/
theorem zeroCells_size (z : Array Value) (n : Nat) : (Builtin.zeroCells z n).size = n * z.size := by simp [Builtin.zeroCells]

theorem growBy_le (newLen : Nat) : ∀ (r c : Nat), c ≤ newLen → Builtin.growBy newLen r c ≤ newLen + (newLen + 768) / 4
  | 0, c, h => by simp only [Builtin.growBy]; omega
  | r + 1, c, h => by
    simp only [Builtin.growBy]
    split
    · omega
    · by_cases hc : c + (c + 768) / 4 ≤ newLen
      · exact growBy_le newLen r _ hc
      · cases r with
        | zero => simp only [Builtin.growBy]; omega
        | succ r => simp only [Builtin.growBy]; rw [if_pos (by omega)]; omega

theorem nextcap_le (newLen oldCap : Nat) (h : oldCap ≤ newLen) : Builtin.nextslicecap newLen oldCap ≤ 2 * newLen + 192 := by
  unfold Builtin.nextslicecap
  split
  · omega
  · split
    · omega
    · have := growBy_le newLen 4 oldCap h; omega

theorem room_spec {need bytes : Nat} (h : roomOk need bytes = true) : need ≤ big ∧ need * bytes ≤ big := by
  unfold roomOk at h
  simpa [nble_iff] using h

theorem no_limit {need sCap bytes : Nat} (h : roomOk need bytes = true) (hlt : sCap < need) : ¬ (Builtin.nextslicecap need sCap * bytes > 2 ^ 48) := by
  obtain ⟨h1, h2⟩ := room_spec h
  have hc := nextcap_le need sCap (by omega)
  have hb : bytes ≤ need * bytes := by
    have := Nat.mul_le_mul_right bytes (show 1 ≤ need by omega)
    simpa using this
  have h3 : Builtin.nextslicecap need sCap * bytes ≤ (2 * need + 192) * bytes := Nat.mul_le_mul_right _ hc
  have h4 : (2 * need + 192) * bytes = 2 * (need * bytes) + 192 * bytes := by rw [Nat.add_mul, Nat.mul_assoc]
  have h48 : (2 : Nat) ^ 48 = 281474976710656 := rfl
  unfold big at h1 h2
  rw [h48]
  omega

theorem grow_does [Mx] {t u : TypeId} {x z : AV} {xv yv : Value} (ty : TypeId) {ue : TE} (hue : te P u = some ue) (hui : ∀ k, ue.und ≠ .int k) {e : TE} {elem : TypeId} {g : TE} (he : te P t = some e) (hel : sliceOf e.und = some elem) (hg : te P elem = some g)
    (hgz : g.zero.cells.length = g.size) (hgn : (!g.size.beq 0) = true) {new : List AV} {m : Nat} {us : Array Value} (hfirst : ∀ w' : World, w'.heap = w.heap → (Builtin.firstCells g.size m yv).run P w' = .ok us w') (hlen : (Builtin.lenOf yv).run P w = .ok m w)
    (hrel : VRP E new us.toList) (hus : new.length = us.size) (hnl : new.length = m * g.size) (hone : new.all AV.one = true) (h : growA S elem g new m x = some (z, S')) (hx : VR E x xv)
    (hr : HR E S.heap.get w) (pr : PR E w) (fresh : ∀ n, S.next ≤ n → n < S'.next → ¬ E.dom n) : DoesV P (Builtin.append_ #[t, u] ty #[xv, yv]) E S w z S' := by
  have hund := sliceOf_some hel
  obtain ⟨zv, hz, hzr⟩ := r_zero hg
  obtain ⟨i, hi, hi1, hi2⟩ := r_info hg
  have hzl : zv.cells.size = g.size := by have := (cv_rel E hz).cells.2; omega
  have hgs : g.size ≠ 0 := fun e => by rw [e] at hgn; cases hgn
  -- the two ways of the model's append
  have inPlace : ∀ (base : Option Addr) (len cap : Nat), len + m ≤ cap → ∀ w' : World, ((match base with
      | some a => storeCells (a.add (len * g.size)) us.toList
      | none => pure () : Sem Unit)).run P w = .ok () w' → (Builtin.append_ #[t, u] ty #[.slice base len cap, yv]).run P w = .ok (.slice base (len + m) cap) w' := by
    intro base len cap hle w' hrun
    simp only [Builtin.append_, List.getElem?_toArray, List.getElem?_cons_zero, List.getElem?_cons_succ, Sem.run_bind, r_und he, hund, Result.andThen_ok, r_size hg, r_und hue, Sem.run_pure, Bool.false_eq_true, if_false, hlen]
    rw [if_pos hle]
    simp only [Bool.not_false, if_true, Sem.run_bind, hfirst w rfl, Result.andThen_ok]
    cases base with
    | none => simp only [Sem.run_pure, Result.ok.injEq, true_and] at hrun ⊢; exact hrun
    | some a => simp only [Sem.run_bind, hrun, Result.andThen_ok, Sem.run_pure]
  have grow : ∀ (base : Option Addr) (len cap : Nat), cap < len + m → roomOk (len + m) g.bytes = true → ∀ old : Array Value, (∀ w' : World, w'.heap = w.heap → (Builtin.firstCells g.size len (.slice base len cap)).run P w' = .ok old w') →
      old.size = len * g.size →
      ∃ (c : Nat) (rest : Array Value) (w1 : World), w1.heap = w.heap ∧ Env w w1 ∧ len + m ≤ c ∧ (old ++ us ++ rest).size = c * g.size ∧
        (Builtin.append_ #[t, u] ty #[.slice base len cap, yv]).run P w = ((newRow elem (old ++ us ++ rest)).run P w1).andThen fun a w' => .ok (.slice (some a) (len + m) c) w' := by
    intro base len cap hlt hroom old hold hos
    have hsm := (room_spec hroom).1
    have hq : (Question.appendCap (len + m) cap elem).forced = false := rfl
    refine ⟨(Question.appendCap (len + m) cap elem).cut (w.tape w.drawn (Question.appendCap (len + m) cap elem)),
      Builtin.zeroCells zv.cells ((Question.appendCap (len + m) cap elem).cut (w.tape w.drawn (Question.appendCap (len + m) cap elem)) - (len + m)), { w with drawn := w.drawn + 1 }, rfl, ⟨rfl, rfl, rfl⟩, ?_, ?_, ?_⟩
    · simp only [Question.cut]; omega
    · have : len + m ≤ (Question.appendCap (len + m) cap elem).cut (w.tape w.drawn (Question.appendCap (len + m) cap elem)) := by simp only [Question.cut]; omega
      generalize (Question.appendCap (len + m) cap elem).cut (w.tape w.drawn (Question.appendCap (len + m) cap elem)) = c at *
      have hus2 : us.size = m * g.size := by omega
      rw [Array.size_append, Array.size_append, zeroCells_size, hzl, hos, hus2, ← Nat.add_mul, ← Nat.add_mul]
      congr 1; omega
    · have big1 : ¬ (((len + m : Nat) : Int) > IntKind.i64.max ∧ (False ∨ i.bytes = 0)) := by
        rintro ⟨h1, _⟩
        have : IntKind.i64.max = 9223372036854775807 := by decide
        unfold big at hsm
        omega
      have big2 : ¬ (Builtin.nextslicecap (len + m) cap * i.bytes > 2 ^ 48) := by rw [hi2]; exact no_limit hroom hlt
      simp only [Builtin.append_, List.getElem?_toArray, List.getElem?_cons_zero, List.getElem?_cons_succ, Sem.run_bind, r_und he, hund, Result.andThen_ok, r_size hg, r_und hue, Sem.run_pure, Bool.false_eq_true, if_false, hlen]
      rw [if_neg (by omega)]
      simp only [Sem.run_bind, hi, Result.andThen_ok]
      rw [if_neg big1]
      simp only [Sem.run_bind, hi, Result.andThen_ok]
      rw [if_neg big2]
      simp only [Sem.run_bind, run_choose, hq, Bool.false_eq_true, if_false, Result.andThen_ok, hi, run_askRoom, Bool.not_false, if_true]
      rw [hold { w with drawn := w.drawn + 1 } rfl]
      simp only [Result.andThen_ok]
      rw [hfirst { w with drawn := w.drawn + 1 } rfl]
      simp only [Result.andThen_ok, hzr, Sem.run_pure]
  -- a new row
  have made : ∀ (b : Bool) (base : Option Addr) (len cap : Nat) (old : List AV) (oldv : Array Value) (S0 : St), S0.next = S.next → (∀ n b, S0.heap.get n = some b → S.heap.get n = some b) → ¬ E.dom S.next →
      cap < len + m → roomOk (len + m) g.bytes = true → (∀ w' : World, w'.heap = w.heap → (Builtin.firstCells g.size len (.slice base len cap)).run P w' = .ok oldv w') →
      VRP E old oldv.toList → old.length = oldv.size → oldv.size = len * g.size →
      DoesV P (Builtin.append_ #[t, u] ty #[.slice base len cap, yv]) E S w (.ms S.next 0 (len + m) none g.size) (newB S0 (rowB b elem (old ++ new))) := by
    intro b base len cap old oldv S0 hS0 hsub hx0 hlt hroom hold ho1 ho2 ho3
    obtain ⟨c, rest, w1, hw1, henv, hc, hsz, hrun⟩ := grow base len cap hlt hroom oldv hold ho3
    have hr1 : HR E S0.heap.get w1 := by
      have := hr.weaken hsub
      exact ⟨fun n b hb => by rw [hw1]; exact this.blk n b hb, this.free, this.inj⟩
    have pr1 : PR E w1 := ⟨fun b arr hb => by rw [hw1]; exact pr.blk b arr hb, pr.gl⟩
    have hcells : VRP E (old ++ new) (oldv ++ us ++ rest).toList := by
      rw [Array.toList_append, Array.toList_append, List.append_assoc]
      rw [← List.append_assoc]
      exact VRP.more (VRP.append ho1 (by simpa using ho2) hrel)
    obtain ⟨a, w', E', hnew', d1, d2, d3, d4, ht⟩ := newRowB_does (P := P) b elem hr1 pr1 (by rw [hS0]; exact hx0) hcells
    rw [hS0] at d1 d2 d3 d4
    refine ⟨.slice (some a) (len + m) c, w', E', ?_, ?_, ?_⟩
    · rw [hrun, hnew']; rfl
    · simp only [VR]
      exact ⟨d1, c, by rw [d2]; simp, hc, by rw [d3, d4, hsz]; omega, fun k hk => by cases hk⟩
    · rw [hS0] at ht
      have hn : (newB S0 (rowB b elem (old ++ new))).next = S.next + 1 := by simp [newB, hS0]
      refine ⟨ht.ext, ht.le, ht.dom, ht.hr, ht.pr, by rw [← hw1]; exact ht.size, ?_, ?_, ?_, ?_, henv.trans ht.env⟩
      · intro n b hb
        rcases ht.names n b hb with ⟨c, hc⟩ | r
        · exact .inl ⟨c, hsub n c hc⟩
        · exact .inr r
      · intro n b hb hl
        obtain ⟨k, c, hk, e⟩ := ht.own n b hb (by rw [hw1]; exact hl)
        exact ⟨k, c, hsub k c hk, e⟩
      · intro k hk hn
        rw [ht.frame k (by rw [hw1]; exact hk) (fun n c hc => hn n c (hsub n c hc)), hw1]
      · intro k hk hn
        exact ht.prot k (by rw [hw1]; exact hk) (fun n c hc => hn n c (hsub n c hc))
  unfold growA at h
  split at h
  · simp only [VR] at hx
    subst hx
    by_cases h0 : m = 0
    · rw [nbeq_iff.2 h0, bc_true] at h
      cases h
      subst h0
      exact DoesV.same hr pr (inPlace none 0 0 (Nat.le_refl _) w rfl) (by simp only [VR])
    · rw [nbeq_false h0, bc_false] at h
      simp only [o2_eq, on3_eq, ob_some, chk_some, Option.some.injEq, Prod.mk.injEq] at h
      obtain ⟨_, hroom, rfl, rfl⟩ := h
      have := made (Mx.ty elem) none 0 0 [] #[] S rfl (fun _ _ h => h) (fresh S.next (Nat.le_refl _) (Nat.lt_succ_self _)) (by omega) (by simpa using hroom) (fun _ _ => rfl) VRP.nil rfl (by simp)
      simpa using this
  · rename_i n off len cap z'
    simp only [o2_eq, on3_eq, ob_some, chk_some, Bool.and_eq_true, nbeq_iff] at h
    obtain ⟨c, hc, _, ⟨rfl, hroom⟩, h⟩ := h
    have hx' := hx
    simp only [VR] at hx
    obtain ⟨d, k, rfl, hlk, hrm, hcap⟩ := hx
    obtain ⟨arr, el, fz, hw, hs, hf, hv⟩ := hr.cells hc
    -- the old cells
    have oldc : ∀ old, sub c off (len * g.size) = some old → ∃ oldv : Array Value,
        (∀ w' : World, w'.heap = w.heap → (Builtin.firstCells g.size len (.slice (some ⟨E.blk n, E.sh n + off, none⟩) len k)).run P w' = .ok oldv w') ∧ VRP E old oldv.toList ∧ old.length = oldv.size ∧ oldv.size = len * g.size := by
      intro old ho
      obtain ⟨ov, h1, _, h3, h4, h5⟩ := src_rel (P := P) (S := S) (x := .ms n off len cap g.size) (size := g.size) (cs := old) (n := len) (by simp only [srcA, readOf_cells hc]; exact ho) rfl hx' hr pr
      exact ⟨ov, h1, h3, h4, by omega⟩
    split at h
    · rename_i k'
      obtain rfl : k = k' := hcap k' rfl
      by_cases hle : len + m ≤ k
      · rw [nble_iff.2 hle, bc_true] at h
        simp only [o2_eq, on3_eq, ob_some, Option.some.injEq, Prod.mk.injEq] at h
        obtain ⟨r, ho, rfl, rfl⟩ := h
        obtain ⟨w', hst, ht⟩ := over_does (P := P) (h' := (S.heap.put n (.cells r)).get) hc ho hrel (by simpa using hus) hone hr pr (fun m => by rw [Tr.get_put]) S.next
        refine ⟨.slice (some ⟨E.blk n, E.sh n + off, none⟩) (len + m) k, w', E, inPlace _ _ _ hle w' ?_, ?_, ht⟩
        · simp only [add_mk, Nat.add_assoc] at hst ⊢
          exact hst
        · simp only [VR]
          exact ⟨d, k, rfl, hle, hrm, fun k' hk => by cases hk; rfl⟩
      · have hb : Nat.ble (len + m) k = false := by
          cases hb : Nat.ble (len + m) k with
          | false => rfl
          | true => exact absurd (nble_iff.1 hb) hle
        rw [hb, bc_false] at h
        simp only [o2_eq, on3_eq, ob_some, Option.some.injEq, Prod.mk.injEq] at h
        obtain ⟨old, ho, rfl, rfl⟩ := h
        obtain ⟨oldv, h1, h2, h3, h4⟩ := oldc old ho
        exact made _ _ _ _ old oldv S rfl (fun _ _ h => h) (fresh S.next (Nat.le_refl _) (Nat.lt_succ_self _)) (by omega) hroom h1 h2 h3 h4
    · simp only [o2_eq, on3_eq, ob_some, Option.some.injEq, Prod.mk.injEq] at h
      obtain ⟨old, ho, rfl, rfl⟩ := h
      obtain ⟨oldv, h1, h2, h3, h4⟩ := oldc old ho
      have hx0 := fresh S.next (Nat.le_refl _) (Nat.lt_succ_self _)
      have hsub : ∀ k b, (S.heap.del n).get k = some b → S.heap.get k = some b := by
        intro k b hb
        rw [Tr.get_del] at hb
        split at hb
        · cases hb
        · exact hb
      by_cases hle : len + m ≤ k
      · -- in place, under a new name
        have husz : us.size = m * g.size := by omega
        have hroom2 : E.sh n + off + len * g.size + 0 + us.toList.length ≤ arr.size := by
          have : (len + m) * g.size ≤ k * g.size := Nat.mul_le_mul_right _ hle
          rw [Nat.add_mul] at this
          simp only [Array.length_toList]
          omega
        obtain ⟨w', hst, hheap, henv⟩ := run_storeCells (P := P) (o := E.sh n + off + len * g.size) us.toList 0 w arr hw hf (all_one hrel (by simpa using hus) hone) hroom2
        obtain ⟨rfl, hol, _⟩ := sub_some ho
        have ext := Ext.add (E := E) hx0 (E.blk n) (E.sh n + off) (E.bsz n)
        obtain ⟨a1, a2, a3, a4⟩ := add_self E S.next (E.blk n) (E.sh n + off) (E.bsz n)
        refine ⟨.slice (some ⟨E.blk n, E.sh n + off, none⟩) (len + m) k, w', E.add S.next (E.blk n) (E.sh n + off) (E.bsz n), inPlace _ _ _ hle w' ?_, ?_, ?_⟩
        · simp only [add_mk]; exact hst
        · simp only [VR]
          exact ⟨a1, k, by rw [a2, a3]; simp, hle, by rw [a3, a4]; simpa using hrm, fun k' hk => by cases hk⟩
        · obtain ⟨bk, hbk, hbm, hbt⟩ := cellsOf_some hc
          have hty : (typed S n elem && off.beq 0) = true → el = elem ∧ E.sh n = 0 ∧ off = 0 := by
            intro ht
            rw [Bool.and_eq_true, nbeq_iff] at ht
            obtain ⟨ht, h0⟩ := ht
            unfold typed at ht
            rw [hbk] at ht
            rcases hbt with rfl | ⟨tt, rfl⟩
            · cases ht
            · have ht : tt = elem := nbeq_iff.1 ht
              obtain ⟨_, o, ho', hb⟩ := hr.blk n _ hbk
              simp only [BR] at hb
              obtain ⟨arr', fz', rfl, hsh, _⟩ := hb
              rw [hw] at ho'
              cases ho'
              exact ⟨ht, hsh, h0⟩
          refine Tran.rename (b' := rowB (typed S n elem && off.beq 0) elem ((c.drop off).take (len * g.size) ++ new)) hr pr hx0 hbk hbm hheap henv (fun m => ?_) ?_
          · simp only [newB, Tr.get_put, Tr.get_del]
          · have key : E.bsz n = (overArr arr (E.sh n + off + len * g.size + 0) us.toList).size ∧ (∀ i, i < (overArr arr (E.sh n + off + len * g.size + 0) us.toList).size → (decide (fz.1 ≤ i) && decide (i < fz.2)) = false) ∧
                VRP (E.add S.next (E.blk n) (E.sh n + off) (E.bsz n)) ((c.drop off).take (len * g.size) ++ new) ((overArr arr (E.sh n + off + len * g.size + 0) us.toList).toList.drop (E.sh n + off)) := ?_
            · obtain ⟨k1, k2, k3⟩ := key
              cases hb : (typed S n elem && off.beq 0)
              · exact ⟨_, el, fz, rfl, by rw [a4]; exact k1, k2, by rw [a3]; exact k3⟩
              · obtain ⟨rfl, h1, h2⟩ := hty hb
                exact ⟨_, fz, rfl, by rw [a3, h1, h2], by rw [a4]; exact k1, k2, by rw [a3]; exact k3⟩
            refine ⟨?_, ?_, ?_⟩
            · rw [overArr_size _ _ _ (by omega)]; exact hs
            · rw [overArr_size _ _ _ (by omega)]; exact hf
            · have hvl := hv.len
              have e1 : (overArr arr (E.sh n + off + len * g.size + 0) us.toList).toList.drop (E.sh n + off) =
                  (arr.toList.drop (E.sh n + off)).take (len * g.size) ++ us.toList ++ arr.toList.drop (E.sh n + off + len * g.size + us.toList.length) := by
                unfold overArr
                simp only [Nat.add_zero, List.append_assoc]
                rw [List.drop_append_of_le_length (by simp; simp at hroom2; omega), List.drop_take]
                congr 2
                omega
              rw [e1]
              refine VRP.mono ext _ _ (VRP.more (VRP.append ?_ ?_ hrel))
              · rw [← List.drop_drop]
                exact VRP.takeR _ (VRP.take _ (VRP.drop _ hv)) (by rw [hol]; exact Nat.le_refl _)
              · rw [hol]; simp; simp at hroom2; omega
      · exact made _ _ _ _ old oldv { S with heap := S.heap.del n } rfl hsub hx0 (by omega) hroom h1 h2 h3 h4
  · cases h

end
end Go.Eng
