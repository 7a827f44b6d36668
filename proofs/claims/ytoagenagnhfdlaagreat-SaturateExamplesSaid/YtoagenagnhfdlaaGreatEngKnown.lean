/-
  Known calls: what pure calls return, each computed once.
-/
import Derived.Test.YtoagenagnhfdlaaGreatEngTop
namespace Go.Eng

/-! known calls: a table of what pure calls return -/
abbrev KE := FuncId × List AV × AV

noncomputable def look : List KE → FuncId → List AV → Option AV
  | [], _, _ => none
  | e :: r, f, args => bif f.beq e.1 && sames args e.2.1 then some e.2.2 else look r f args

/-- what is known, and which calls have nothing to do -/
noncomputable abbrev mxTab (tn : FuncId → TypeId → Bool) (tab : List KE) : Mx := { x := look tab, tn := tn }

structure Known [Gl] (P : Program) (e : KE) : Prop where
  fn : ∃ fn, P.funcs[e.1]? = some fn ∧ fn.body.isSome = true
  ok : PureOk P e.1 e.2.1 e.2.2

theorem known_nil {Q : KE → Prop} : ∀ e ∈ ([] : List KE), Q e := fun _ h => by cases h
theorem known_cons {Q : KE → Prop} {e : KE} {l : List KE} (h : Q e) (hl : ∀ e ∈ l, Q e) : ∀ d ∈ e :: l, Q d := fun d hd => by
  rcases List.mem_cons.1 hd with rfl | hd
  · exact h
  · exact hl d hd

theorem look_ok [Gl] {P : Program} : ∀ {tab : List KE} {f : FuncId} {args : List AV} {v : AV}, (∀ e ∈ tab, Known P e) → look tab f args = some v → Known P (f, args, v)
  | [], _, _, _, _, h => by cases h
  | e :: tab, f, args, v, hk, h => by
    unfold look at h
    cases hb : (f.beq e.1 && sames args e.2.1) <;> rw [hb] at h
    · exact look_ok (fun d hd => hk d (List.mem_cons_of_mem _ hd)) h
    · simp only [Bool.and_eq_true, nbeq_iff] at hb
      obtain ⟨rfl, hs⟩ := hb
      have hs := (@same_sames ⟨fun _ => none⟩ (mxTab (fun _ _ => false) [])).2 _ _ hs
      subst hs
      cases h
      exact hk e (by simp)

structure Tiny (P : Program) (tn : FuncId → TypeId → Bool) : Prop where
  ok : ∀ f t, tn f t = true → (∃ fn, P.funcs[f]? = some fn ∧ fn.body.isSome = true) ∧
    ∀ (p : Option Addr) (n c : Nat) (g : Fn) (a b : Array Value) (w : World), n ≤ 1 → Calls P f #[.iface t (.slice p n c), .func g a b] w fun e w' => e = .returned (.tuple #[]) ∧ ∃ os : Array Obj, w' = { w with heap := w.heap ++ os }

theorem mxTab_ok [Gl] {P : Program} {tn : FuncId → TypeId → Bool} {tab : List KE} (ht : Tiny P tn) (hk : ∀ e ∈ tab, Known P e) : @MxOk _ (mxTab tn tab) P :=
  @MxOk.mk _ (mxTab tn tab) P (fun _ _ _ h => ⟨(look_ok hk h).fn, (look_ok hk h).ok⟩) ht.ok

/-- what a pure call returns, by the engine -/
noncomputable def pureX [Gl] (m : Mx) (P : Program) (pol : FuncId → Bool) (n : Nat) (f : FuncId) (args : List AV) : Option AV := @pureF m P (@run _ m pol (planOf pol) P n) f args

theorem pureF_fn [Gl] [Mx] {P' : Program} (hx : MxOk P') {rec : RunT} {f : FuncId} {args : List AV} {v : AV} (h : pureF P' rec f args = some v) : ∃ fn, P'.funcs[f]? = some fn ∧ fn.body.isSome = true := by
  unfold pureF at h
  split at h
  · rename_i hq
    exact (hx.known _ _ _ hq).1
  · simp only [ob_some] at h
    obtain ⟨r, hr, _⟩ := h
    simp only [callM, ob_some] at hr
    obtain ⟨fn, hf, c, hb, _⟩ := hr
    exact ⟨fn, hf, by rw [hb]; rfl⟩

theorem known_of [Gl] {m : Mx} {P : Program} {pol : FuncId → Bool} {n : Nat} {e : KE} (hmix : P.follows .mixedOrders = true) (hx : @MxOk _ m P) (hP : NoNum P) (h : isV e.2.2 (pureX m P pol n e.1 e.2.1) = true) : Known P e :=
  ⟨@pureF_fn _ m _ hx _ _ _ _ (isV_eq h), @run_pure _ m _ _ hmix hx hP n _ _ _ (isV_eq h)⟩

/-- a law without arguments: where the engine's run of it ends in true -/
theorem law_of [Gl] {m : Mx} {P : Program} {pol : FuncId → Bool} {n : Nat} {f : FuncId} (hmix : P.follows .mixedOrders = true) (hx : @MxOk _ m P) (hP : NoNum P) (h : isV (.bool true) (pureX m P pol n f []) = true) (w : World) (L : Laid w) :
    Calls P f #[] w fun e w' => e = .returned (.bool true) ∧ RowKit.Below w.heap.size w w' :=
  pure_law (@run_pure _ m _ _ hmix hx hP n _ _ _ (isV_eq h)) _ w L.pr #[] VRP.nil rfl

end Go.Eng
