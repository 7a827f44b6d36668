/-
  Known calls: what pure calls return, each computed once.
-/
import Derived.Test.YtjkdpgkpghcfbaaGreatDoorEngTop
import Derived.Lib.Bytealg
set_option linter.unusedSimpArgs false
set_option linter.unusedVariables false
namespace Go.Eng

/-! known calls: a table of what pure calls return -/
abbrev KE := FuncId × List AV × AV

noncomputable def look : List KE → FuncId → List AV → Option AV
  | [], _, _ => none
  | e :: r, f, args => bif f.beq e.1 && sames args e.2.1 then some e.2.2 else look r f args

/-- what is known, and what is special: calls that have nothing to do, sorts, swaps -/
structure Sp where
  tn : FuncId → TypeId → Bool
  so : FuncId → TypeId → Option (FuncId × FuncId × TypeId)
  sw : FuncId → Bool
  ty : TypeId → Bool := fun _ => false
  ar : TypeId → Bool := fun _ => false
  ex : FuncId → List AV → Option AV := fun _ _ => none
  ro : FuncId → Bool := fun _ => false
noncomputable abbrev mxTab (sp : Sp) (tab : List KE) : Mx := { x := look tab, tn := sp.tn, so := sp.so, sw := sp.sw, ty := sp.ty, ar := sp.ar, ex := sp.ex, ro := sp.ro }
noncomputable def spNone : Sp := { tn := fun _ _ => false, so := fun _ _ => none, sw := fun _ => false }

structure Known [Gl] (P : Program) (e : KE) : Prop where
  fn : ∃ fn, P.funcs[e.1]? = some fn ∧ fn.body.isSome = true
  ok : PureOk P e.1 e.2.1 e.2.2

theorem known_nil {Q : KE → Prop} : ∀ e ∈ ([] : List KE), Q e := fun _ h => by cases h
theorem known_cons {Q : KE → Prop} {e : KE} {l : List KE} (h : Q e) (hl : ∀ e ∈ l, Q e) : ∀ d ∈ e :: l, Q d := fun d hd => by
  rcases List.mem_cons.1 hd with rfl | hd
  · exact h
  · exact hl d hd

theorem look_ok [Gl] {P : Program} : ∀ {tab : List KE} {f : FuncId} {args : List AV} {v : AV}, (∀ e ∈ tab, Known P e) → look tab f args = some v → Known P (f, args, v)
  | [], _, _, _, _, h => by cases h
  | e :: tab, f, args, v, hk, h => by
    unfold look at h
    cases hb : (f.beq e.1 && sames args e.2.1) <;> rw [hb] at h
    · exact look_ok (fun d hd => hk d (List.mem_cons_of_mem _ hd)) h
    · simp only [Bool.and_eq_true, nbeq_iff] at hb
      obtain ⟨rfl, hs⟩ := hb
      have hs := (@same_sames ⟨fun _ => none⟩ (mxTab spNone [])).2 _ _ hs
      subst hs
      cases h
      exact hk e (by simp)

structure SpOk (P : Program) (sp : Sp) : Prop where
  externs : ∀ f args v, sp.ex f args = some v → ∀ (E : Gh) (vs : Array Value), VRP E args vs.toList → args.length = vs.size → ∃ u, VR E v u ∧ ∀ W, (callFunc f vs).run P W = .ok (.value u) W
  tiny : ∀ f t, sp.tn f t = true → (∃ fn, P.funcs[f]? = some fn ∧ fn.body.isSome = true) ∧
    ∀ (p : Option Addr) (n c : Nat) (g : Fn) (a b : Array Value) (w : World), n ≤ 1 → Calls P f #[.iface t (.slice p n c), .func g a b] w fun e w' => e = .returned (.tuple #[]) ∧ ∃ os : Array Obj, w' = { w with heap := w.heap ++ os }
  sorts : ∀ f t q, sp.so f t = some q → (∃ fn, P.funcs[f]? = some fn ∧ fn.body.isSome = true) ∧
    ∀ (p : Option Addr) (n c : Nat) (g : Fn) (a b : Array Value) (w : World) (R : World → Prop), 2 ≤ n → n < 4611686018427387904 →
      (∀ os : Array Obj, Calls P q.1 #[.agg #[.func g a b, .func (.func q.2.1) #[] #[.slice p n c, typeHandle P q.2.2]], .int .i64 0, .int .i64 n, .int .i64 ((n.log2 + 1 : Nat) : Int)] { w with heap := w.heap ++ os } fun e w' => e = .returned (.tuple #[]) ∧ R w') →
      Calls P f #[.iface t (.slice p n c), .func g a b] w fun e w' => e = .returned (.tuple #[]) ∧ R w'
  swaps : ∀ s, sp.sw s = true → ∃ gS, ∀ args W, (callFunc s args).run P W = ((Extern.ReflectliteSwapper.swap gS args).run P W).andThen fun v w' => .ok (.value v) w'

theorem mxTab_ok [Gl] {P : Program} {sp : Sp} {tab : List KE} (ht : SpOk P sp) (hk : ∀ e ∈ tab, Known P e) : @MxOk _ (mxTab sp tab) P :=
  @MxOk.mk _ (mxTab sp tab) P (fun _ _ _ h => ⟨(look_ok hk h).fn, (look_ok hk h).ok⟩) ht.tiny ht.sorts ht.externs ht.swaps

/-! functions without a body -/
noncomputable def exCount : List AV → Option AV
  | [.str s, .int .u8 c] => some (.int .i64 (Lib.countByte s.data.toList c.toNat.toUInt8))
  | _ => none
noncomputable def exIndex : List AV → Option AV
  | [.str s, .int .u8 c] => some (.int .i64 (Lib.indexByte s.data.toList c.toNat.toUInt8))
  | _ => none
noncomputable def exSame : List AV → Option AV
  | [x] => some x
  | _ => none
def ExOk (P : Program) (f : FuncId) (g : List AV → Option AV) : Prop := ∀ args v, g args = some v → ∀ (E : Gh) (vs : Array Value), VRP E args vs.toList → args.length = vs.size → ∃ u, VR E v u ∧ ∀ W, (callFunc f vs).run P W = .ok (.value u) W
theorem two_vs {E : Gh} {a b : AV} {vs : Array Value} (h : VRP E [a, b] vs.toList) (hl : [a, b].length = vs.size) : ∃ u v, vs = #[u, v] ∧ VR E a u ∧ VR E b v := by
  obtain ⟨l⟩ := vs
  match l, h, hl with
  | [u, v], h, _ => exact ⟨u, v, rfl, by simp only [VRP] at h; exact h.1, by simp only [VRP] at h; exact h.2.1⟩
  | [], _, hl => simp at hl
  | [_], _, hl => simp at hl
  | _ :: _ :: _ :: _, _, hl => simp at hl
theorem exCount_ok {P : Program} {f : FuncId} (hf : ∀ args W, (callFunc f args).run P W = ((Extern.BytealgCount.count args).run P W).andThen fun v w' => .ok (.value v) w') : ExOk P f exCount := by
  intro args v h E vs hv hl
  unfold exCount at h
  split at h
  · cases h
    obtain ⟨a, b, rfl, ha, hb⟩ := two_vs hv hl
    simp only [VR] at ha hb
    subst ha hb
    exact ⟨_, by simp only [VR]; rfl, fun W => by rw [hf, Lib.run_countString]; rfl⟩
  · cases h
theorem exIndex_ok {P : Program} {f : FuncId} (hf : ∀ args W, (callFunc f args).run P W = ((Extern.BytealgIndexByte.indexByte args).run P W).andThen fun v w' => .ok (.value v) w') : ExOk P f exIndex := by
  intro args v h E vs hv hl
  unfold exIndex at h
  split at h
  · cases h
    obtain ⟨a, b, rfl, ha, hb⟩ := two_vs hv hl
    simp only [VR] at ha hb
    subst ha hb
    exact ⟨_, by simp only [VR]; rfl, fun W => by rw [hf, Lib.run_indexByteString]; rfl⟩
  · cases h
theorem exSame_ok {P : Program} {f : FuncId} (hf : ∀ args W, (callFunc f args).run P W = ((Extern.AbiNoEscape.same args).run P W).andThen fun v w' => .ok (.value v) w') : ExOk P f exSame := by
  intro args v h E vs hv hl
  unfold exSame at h
  split at h
  · cases h
    obtain ⟨l⟩ := vs
    match l, hv, hl with
    | [u], hv, _ => exact ⟨u, by simp only [VRP] at hv; exact hv.1, fun W => by rw [hf]; rfl⟩
    | [], _, hl => simp at hl
    | _ :: _ :: _, _, hl => simp at hl
  · cases h

/-- what a pure call returns, by the engine -/
noncomputable def pureX [Gl] (m : Mx) (P : Program) (pol : FuncId → Bool) (n : Nat) (f : FuncId) (args : List AV) : Option AV := @pureF m P (@run _ m pol (planOf pol) P n) f args

theorem pureF_fn [Gl] [Mx] {P' : Program} (hx : MxOk P') {rec : RunT} {f : FuncId} {args : List AV} {v : AV} (h : pureF P' rec f args = some v) : ∃ fn, P'.funcs[f]? = some fn ∧ fn.body.isSome = true := by
  unfold pureF at h
  split at h
  · rename_i hq
    exact (hx.known _ _ _ hq).1
  · simp only [o2_eq, on3_eq, ob_some] at h
    obtain ⟨r, hr, _⟩ := h
    simp only [callM, o2_eq, on3_eq, ob_some] at hr
    obtain ⟨fn, hf, c, hb, _⟩ := hr
    exact ⟨fn, hf, by rw [hb]; rfl⟩

theorem known_of [Gl] {m : Mx} {P : Program} {pol : FuncId → Bool} {n : Nat} {e : KE} (hmix : P.follows .mixedOrders = true) (hx : @MxOk _ m P) (hP : NoNum P) (h : isV e.2.2 (pureX m P pol n e.1 e.2.1) = true) : Known P e :=
  ⟨@pureF_fn _ m _ hx _ _ _ _ (isV_eq h), @run_pure _ m _ _ hmix hx hP n _ _ _ (isV_eq h)⟩

/-- a law without arguments: where the engine's run of it ends in true -/
theorem law_of [Gl] {m : Mx} {P : Program} {pol : FuncId → Bool} {n : Nat} {f : FuncId} (hmix : P.follows .mixedOrders = true) (hx : @MxOk _ m P) (hP : NoNum P) (h : isV (.bool true) (pureX m P pol n f []) = true) (w : World) (L : Laid w) :
    Calls P f #[] w fun e w' => e = .returned (.bool true) ∧ RowKit.Below w.heap.size w w' :=
  pure_law (@run_pure _ m _ _ hmix hx hP n _ _ _ (isV_eq h)) _ w L.pr #[] VRP.nil rfl

end Go.Eng
