/-
Long calls in pieces: loops that are run from one noted state to the next, and codes with marks in place of such loops.
Package-level variables that nobody writes: what a row lists of them gives the engine's frozen values.
-/
import Derived.Test.YtmanhjinplhfjaaGreatDoorEngB
import GoSem.ClaimJoined
set_option linter.unusedVariables false
set_option linter.unusedSimpArgs false
namespace Go.Eng
set_option linter.unusedSectionVars false
section
variable [Gl] [Mx] {P : Program} {pol : FuncId → Bool} {rec : RunT}

abbrev R3 := X × Tm × St

/-- what is known of a code's end -/
def Po (E : Gh) (nt : Nat) (S : St) (w : World) (r : R3) (e : Exit) (a' : Act) (w' : World) : Prop :=
  ∃ E', XR r.1 e ∧ TR E' nt r.2.1.get a' ∧ a'.defers = [] ∧ Tran E S.heap.get w S.next E' r.2.2.heap.get w' r.2.2.next
/-- the states that slots and memory speak of -/
structure Pre (E : Gh) (nt : Nat) (T : Tm) (S : St) (m : Nat) (a : Act) (w : World) : Prop where
  tr : TR E nt T.get a
  hr : HR E S.heap.get w
  pr : PR E w
  fresh : ∀ n, S.next ≤ n → n < m → ¬ E.dom n
  df : a.defers = []
/-- what a code does from slots and memory -/
def Ho (P : Program) (nt : Nat) (c : Code) (T : Tm) (S : St) (r : R3) : Prop := S.next ≤ r.2.2.next ∧
  ∀ E a w, Pre E nt T S r.2.2.next a w → c.wp P (Po E nt S w r) a w
/-- .. and a loop -/
def HoL (P : Program) (nt : Nat) (b : Code) (T : Tm) (S : St) (r : R3) : Prop := S.next ≤ r.2.2.next ∧
  ∃ n, ∀ E a w, Pre E nt T S r.2.2.next a w → Code.rounds P b (Po E nt S w r) n a w

theorem Ho.of (hmix : P.follows .mixedOrders = true) (hx : MxOk P) (hP : NoNum P) {n nt : Nat} {c : Code} {T : Tm} {S : St} {r : R3} (h : run pol (planOf pol) P n nt c T S = some [r]) : Ho P nt c T S r := by
  obtain ⟨h1, h2, _, _⟩ := run_ok (pol := pol) hmix hx hP n
  refine ⟨h2 _ _ _ _ _ h r (by simp), fun E a w p => ?_⟩
  refine wp_mono (h1 _ _ _ _ _ h E a w p.tr p.hr p.pr (fun r' hr => by rw [List.mem_singleton.1 hr]; exact p.fresh) p.df) ?_
  rintro e a' w' ⟨r', hr, E', q⟩
  obtain rfl := List.mem_singleton.1 hr
  exact ⟨E', q⟩
theorem HoL.of (hmix : P.follows .mixedOrders = true) (hx : MxOk P) (hP : NoNum P) {n nt : Nat} {b : Code} {T : Tm} {S : St} {r : R3} (h : run pol (planOf pol) P n nt (.loop b) T S = some [r]) : HoL P nt b T S r := by
  obtain ⟨_, h2, _, h4⟩ := run_ok (pol := pol) hmix hx hP n
  refine ⟨h2 _ _ _ _ _ h r (by simp), n, fun E a w p => ?_⟩
  refine rounds_mono ?_ n a w (h4 _ _ _ _ _ h E a w p.tr p.hr p.pr (fun r' hr => by rw [List.mem_singleton.1 hr]; exact p.fresh) p.df)
  rintro e a' w' ⟨r', hr, E', q⟩
  obtain rfl := List.mem_singleton.1 hr
  exact ⟨E', q⟩
theorem HoL.ho {nt : Nat} {b : Code} {T : Tm} {S : St} {r : R3} (h : HoL P nt b T S r) : Ho P nt (.loop b) T S r :=
  ⟨h.1, fun E a w p => let ⟨n, hn⟩ := h.2; wp_loop_rounds n (hn E a w p)⟩

/-- a first part that ends in the normal way leads to the states of the second -/
theorem Pre.next {E E1 : Gh} {nt m : Nat} {T T1 : Tm} {S S1 : St} {a a1 : Act} {w w1 : World} (p : Pre E nt T S m a w) (ht : TR E1 nt T1.get a1) (hd : a1.defers = []) (tr : Tran E S.heap.get w S.next E1 S1.heap.get w1 S1.next) : Pre E1 nt T1 S1 m a1 w1 :=
  ⟨ht, tr.hr, tr.pr, tran_fresh tr p.fresh, hd⟩
theorem Pre.le {E : Gh} {nt m k : Nat} {T : Tm} {S : St} {a : Act} {w : World} (p : Pre E nt T S m a w) (h : k ≤ m) : Pre E nt T S k a w :=
  ⟨p.tr, p.hr, p.pr, fun n h1 h2 => p.fresh n h1 (Nat.lt_of_lt_of_le h2 h), p.df⟩

theorem HoL.step {nt : Nat} {b : Code} {T T1 : Tm} {S S1 : St} {r : R3} (h : Ho P nt b T S (.n, T1, S1)) (k : HoL P nt b T1 S1 r) : HoL P nt b T S r := by
  obtain ⟨h1, h2⟩ := h
  obtain ⟨k1, n, k2⟩ := k
  have h1 : S.next ≤ S1.next := h1
  refine ⟨Nat.le_trans h1 k1, n + 1, fun E a w p => ?_⟩
  rw [rounds_succ]
  refine wp_mono (h2 E a w (p.le k1)) ?_
  rintro e a1 w1 ⟨E1, hxr, ht, hd, tr⟩
  simp only [XR] at hxr
  subst hxr
  show Code.rounds P b _ n a1 w1
  refine rounds_mono ?_ n a1 w1 (k2 E1 a1 w1 (p.next ht hd tr))
  rintro e a2 w2 ⟨E2, hx2, ht2, hd2, tr2⟩
  exact ⟨E2, hx2, ht2, hd2, tr.trans tr2⟩

/-- some rounds of a loop -/
noncomputable def itN (rec : RunT) (nt : Nat) (b : Code) (k : Nat) : Tm → St → Option (Tm × St) :=
  Nat.rec (motive := fun _ => Tm → St → Option (Tm × St)) (fun T S => some (T, S)) (fun _ ih T S => (rec nt b T S).ob fun rs => match rs with
    | [r] => on3 (fun x T' S' => match x with | .n => ih T' S' | _ => none) r
    | _ => none) k
theorem HoL.its (hmix : P.follows .mixedOrders = true) (hx : MxOk P) (hP : NoNum P) {n nt : Nat} {b : Code} {r : R3} : ∀ {k : Nat} {T T1 : Tm} {S S1 : St}, itN (run pol (planOf pol) P n) nt b k T S = some (T1, S1) → HoL P nt b T1 S1 r → HoL P nt b T S r
  | 0, T, T1, S, S1, h, hl => by cases h; exact hl
  | k + 1, T, T1, S, S1, h, hl => by
    have h : ((run pol (planOf pol) P n nt b T S).ob fun rs => match rs with
      | [r] => on3 (fun x T' S' => match x with | .n => itN (run pol (planOf pol) P n) nt b k T' S' | _ => none) r
      | _ => none) = some (T1, S1) := h
    rw [ob_some] at h
    obtain ⟨rs, h1, h⟩ := h
    split at h
    · rename_i r1
      obtain ⟨x, T2, S2⟩ := r1
      cases x with
      | n => exact HoL.step (Ho.of hmix hx hP h1) (HoL.its hmix hx hP h hl)
      | e i => cases h
      | r => cases h
    · cases h

/-! states that hold more -/
noncomputable def subVO : Option AV → Option AV → Bool
  | none, _ => true
  | some a, some b => same a b
  | some _, none => false
noncomputable def subV : Tr AV → Tr AV → Bool
  | .lf, _ => true
  | .nd l v r, .nd l' v' r' => subVO v v' && subV l l' && subV r r'
  | .nd l v r, .lf => v.isNone && subV l .lf && subV r .lf
theorem subV_get : ∀ {a t : Tr AV}, subV a t = true → ∀ (p : List Bool) (x : AV), a.getP p = some x → t.getP p = some x
  | .lf, _, _, p, x, h => by rw [Tr.getP_lf] at h; cases h
  | .nd l v r, .lf, h, p, x, hx => by
    simp only [subV, Bool.and_eq_true, Option.isNone_iff_eq_none] at h
    obtain ⟨⟨h1, h2⟩, h3⟩ := h
    cases p with
    | nil => have hv : v = some x := hx; rw [h1] at hv; cases hv
    | cons b p =>
      cases b
      · have := subV_get (a := r) h3 p x hx; rw [Tr.getP_lf] at this; cases this
      · have := subV_get (a := l) h2 p x hx; rw [Tr.getP_lf] at this; cases this
  | .nd l v r, .nd l' v' r', h, p, x, hx => by
    simp only [subV, Bool.and_eq_true] at h
    obtain ⟨⟨h1, h2⟩, h3⟩ := h
    cases p with
    | nil =>
      have hv : v = some x := hx
      subst hv
      show v' = some x
      cases v' with
      | none => simp [subVO] at h1
      | some b => rw [same_sames.1 x b h1]
    | cons b p =>
      cases b
      · exact subV_get (a := r) (t := r') h3 p x hx
      · exact subV_get (a := l) (t := l') h2 p x hx
/-- the second state holds all that the first holds -/
noncomputable def subS (T : Tm) (S : St) (T' : Tm) (S' : St) : Bool := subV T T' && (subT S.heap S'.heap && S.next.beq S'.next)
theorem Pre.weak {E : Gh} {nt m : Nat} {T T' : Tm} {S S' : St} {a : Act} {w : World} (h : subS T S T' S' = true) (p : Pre E nt T' S' m a w) : Pre E nt T S m a w := by
  simp only [subS, Bool.and_eq_true, nbeq_iff] at h
  obtain ⟨h1, h2, h3⟩ := h
  exact ⟨⟨p.tr.1, fun t x hx => p.tr.2 t x (subV_get h1 _ _ hx)⟩, p.hr.weaken fun n b hb => subT_get h2 _ _ hb, p.pr, fun n k1 k2 => p.fresh n (by rw [← h3]; exact k1) k2, p.df⟩
theorem Tran.wide {E E' : Gh} {h h1 h' : Nat → Option AB} {w w' : World} {x y : Nat} (t : Tran E h1 w x E' h' w' y) (hs : ∀ n b, h1 n = some b → h n = some b) : Tran E h w x E' h' w' y :=
  ⟨t.ext, t.le, t.dom, t.hr, t.pr, t.size, fun n b hb => (t.names n b hb).imp (fun ⟨c, hc⟩ => ⟨c, hs n c hc⟩) id, fun n b hb hl => let ⟨m, c, hc, e⟩ := t.own n b hb hl; ⟨m, c, hs m c hc, e⟩,
    fun b hb hn => t.frame b hb fun n c hc => hn n c (hs n c hc), fun b hb hn => t.prot b hb fun n c hc => hn n c (hs n c hc), t.env⟩
theorem Po.wide {E : Gh} {nt : Nat} {S S' : St} {T T' : Tm} {w : World} {r : R3} (h : subS T S T' S' = true) {e : Exit} {a' : Act} {w' : World} (p : Po E nt S w r e a' w') : Po E nt S' w r e a' w' := by
  simp only [subS, Bool.and_eq_true, nbeq_iff] at h
  obtain ⟨_, h2, h3⟩ := h
  obtain ⟨E', q1, q2, q3, tr⟩ := p
  rw [h3] at tr
  exact ⟨E', q1, q2, q3, tr.wide fun n b hb => subT_get h2 _ _ hb⟩
theorem HoL.weak {nt : Nat} {b : Code} {T T' : Tm} {S S' : St} {r : R3} (h : subS T S T' S' = true) (k : HoL P nt b T S r) : HoL P nt b T' S' r := by
  have h0 := h
  simp only [subS, Bool.and_eq_true, nbeq_iff] at h0
  obtain ⟨k1, n, k2⟩ := k
  exact ⟨by rw [← h0.2.2]; exact k1, n, fun E a w p => rounds_mono (fun e a w q => q.wide h) n a w (k2 E a w (p.weak h))⟩
theorem Ho.weak {nt : Nat} {b : Code} {T T' : Tm} {S S' : St} {r : R3} (h : subS T S T' S' = true) (k : Ho P nt b T S r) : Ho P nt b T' S' r := by
  have h0 := h
  simp only [subS, Bool.and_eq_true, nbeq_iff] at h0
  exact ⟨by rw [← h0.2.2]; exact k.1, fun E a w p => wp_mono (k.2 E a w (p.weak h)) fun e a w q => q.wide h⟩

/-- some rounds lead to a state that holds all of the noted one -/
noncomputable def leads (rec : RunT) (nt : Nat) (b : Code) (k : Nat) (T : Tm) (S : St) (T1 : Tm) (S1 : St) : Bool := match itN rec nt b k T S with
  | some q => subS T1 S1 q.1 q.2
  | none => false
theorem HoL.leads (hmix : P.follows .mixedOrders = true) (hx : MxOk P) (hP : NoNum P) {n nt k : Nat} {b : Code} {r : R3} {T T1 : Tm} {S S1 : St} (h : leads (run pol (planOf pol) P n) nt b k T S T1 S1 = true) (hl : HoL P nt b T1 S1 r) : HoL P nt b T S r := by
  unfold Eng.leads at h
  split at h
  · rename_i q hq
    obtain ⟨T', S'⟩ := q
    exact HoL.its hmix hx hP hq (hl.weak h)
  · cases h
/-- the loop ends in a state that holds all of the noted one -/
noncomputable def ends (rec : RunT) (nt : Nat) (c : Code) (T : Tm) (S : St) (r : R3) : Bool := match rec nt c T S with
  | some [q] => (match q.1, r.1 with | .n, .n => true | .e i, .e j => i.beq j | .r, .r => true | _, _ => false) && subS r.2.1 r.2.2 q.2.1 q.2.2
  | _ => false
theorem Tran.less {E E' : Gh} {h h1 h' : Nat → Option AB} {w w' : World} {x y : Nat} (t : Tran E h w x E' h1 w' y) (hs : ∀ n b, h' n = some b → h1 n = some b) : Tran E h w x E' h' w' y :=
  ⟨t.ext, t.le, t.dom, t.hr.weaken hs, t.pr, t.size, fun n b hb => t.names n b (hs n b hb), fun n b hb hl => t.own n b (hs n b hb) hl, t.frame, t.prot, t.env⟩
theorem Po.less {E : Gh} {nt : Nat} {S : St} {w : World} {q r : R3} (hx : q.1 = r.1) (h : subS r.2.1 r.2.2 q.2.1 q.2.2 = true) {e : Exit} {a' : Act} {w' : World} (p : Po E nt S w q e a' w') : Po E nt S w r e a' w' := by
  simp only [subS, Bool.and_eq_true, nbeq_iff] at h
  obtain ⟨h1, h2, h3⟩ := h
  obtain ⟨E', q1, q2, q3, tr⟩ := p
  rw [← h3] at tr
  exact ⟨E', by rw [← hx]; exact q1, ⟨q2.1, fun t x hx => q2.2 t x (subV_get h1 _ _ hx)⟩, q3, tr.less fun n b hb => subT_get h2 _ _ hb⟩
theorem ends_some {nt : Nat} {c : Code} {T : Tm} {S : St} {r : R3} (h : ends rec nt c T S r = true) : ∃ q, rec nt c T S = some [q] ∧ q.1 = r.1 ∧ subS r.2.1 r.2.2 q.2.1 q.2.2 = true := by
  unfold ends at h
  split at h
  · rename_i q hq
    rw [Bool.and_eq_true] at h
    refine ⟨q, hq, ?_, h.2⟩
    have h1 := h.1
    split at h1
    · rename_i e1 e2; rw [e1, e2]
    · rename_i i j e1 e2; rw [e1, e2, nbeq_iff.1 h1]
    · rename_i e1 e2; rw [e1, e2]
    · cases h1
  · cases h
theorem HoL.ends (hmix : P.follows .mixedOrders = true) (hx : MxOk P) (hP : NoNum P) {n nt : Nat} {b : Code} {r : R3} {T : Tm} {S : St} (h : ends (run pol (planOf pol) P n) nt (.loop b) T S r = true) : HoL P nt b T S r := by
  obtain ⟨q, hq, e1, e2⟩ := ends_some h
  obtain ⟨k1, m, k2⟩ := HoL.of hmix hx hP hq
  have h0 := e2
  simp only [subS, Bool.and_eq_true, nbeq_iff] at h0
  have hn : r.2.2.next = q.2.2.next := h0.2.2
  exact ⟨by rw [hn]; exact k1, m, fun E a w p => rounds_mono (fun e a w z => z.less e1 e2) m a w (k2 E a w (p.le (by rw [hn]; exact Nat.le_refl _)))⟩

/-! codes with marks -/
/-- the part of a code that a way leads to -/
noncomputable def codeAt : Code → List Nat → Code
  | c, [] => c
  | .seq a _, 0 :: p => codeAt a p
  | .seq _ b, _ :: p => codeAt b p
  | .block _ b, _ :: p => codeAt b p
  | .cond _ a _, 0 :: p => codeAt a p
  | .cond _ _ b, _ :: p => codeAt b p
  | .loop b, _ :: p => codeAt b p
  | _, _ :: _ => .ret
noncomputable def loopBody : Code → Code
  | .loop b => b
  | _ => .ret
abbrev Ways := List (List Nat × Nat)
/-- the ways on, in a direction: left or not -/
noncomputable def goL : Ways → Ways
  | [] => []
  | (0 :: p, l) :: r => (p, l) :: goL r
  | _ :: r => goL r
noncomputable def goR : Ways → Ways
  | [] => []
  | ((_ + 1) :: p, l) :: r => (p, l) :: goR r
  | _ :: r => goR r
noncomputable def goA : Ways → Ways
  | [] => []
  | (_ :: p, l) :: r => (p, l) :: goA r
  | _ :: r => goA r
noncomputable def here : Ways → Option Nat
  | [] => none
  | ([], l) :: _ => some l
  | _ :: r => here r
noncomputable def blkR (id : Nat) : R3 → R3 := on3 fun x T S => match x with
  | .e i => bif i.beq id then (.n, T, S) else (.e i, T, S)
  | x => (x, T, S)
noncomputable def one1 (x : Option (List R3)) : Option R3 := x.ob fun rs => match rs with
  | [r] => some r
  | _ => none
noncomputable def loopN (f : Tm → St → Option R3) (n : Nat) : Tm → St → Option R3 :=
  Nat.rec (motive := fun _ => Tm → St → Option R3) (fun _ _ => none) (fun _ ih T S => (f T S).ob fun r => on3 (fun x T' S' => match x with | .n => ih T' S' | x => some (x, T', S')) r) n
/-- the run of a code in which the marked parts are known -/
noncomputable def runP (rec : RunT) (lp : Nat → Tm → St → Option R3) (nt : Nat) (n : Nat) : Code → Ways → Tm → St → Option R3
  | .seq a b, ps, T, S => bif ps.isEmpty then one1 (rec nt (.seq a b) T S) else match here ps with
    | some l => lp l T S
    | none => (runP rec lp nt n a (goL ps) T S).ob fun r => on3 (fun x T' S' => match x with | .n => runP rec lp nt n b (goR ps) T' S' | x => some (x, T', S')) r
  | .block id b, ps, T, S => bif ps.isEmpty then one1 (rec nt (.block id b) T S) else match here ps with
    | some l => lp l T S
    | none => (runP rec lp nt n b (goA ps) T S).ob fun r => some (blkR id r)
  | .cond v a b, ps, T, S => bif ps.isEmpty then one1 (rec nt (.cond v a b) T S) else match here ps with
    | some l => lp l T S
    | none => (ev T v).ob fun u => match u with
        | .bool true => runP rec lp nt n a (goL ps) T S
        | .bool false => runP rec lp nt n b (goR ps) T S
        | _ => none
  | .loop b, ps, T, S => bif ps.isEmpty then one1 (rec nt (.loop b) T S) else match here ps with
    | some l => lp l T S
    | none => loopN (runP rec lp nt n b (goA ps)) n T S
  | c, ps, T, S => bif ps.isEmpty then one1 (rec nt c T S) else match here ps with
    | some l => lp l T S
    | none => one1 (rec nt c T S)

/-- what is known of the marked parts -/
def LpOk (P : Program) (nt : Nat) (lp : Nat → Tm → St → Option R3) (c : Code) (ps : Ways) : Prop := ∀ q ∈ ps, ∀ T S r, lp q.2 T S = some r → Ho P nt (codeAt c q.1) T S r
theorem here_some : ∀ {ps : Ways} {l : Nat}, here ps = some l → ([], l) ∈ ps
  | [], _, h => by cases h
  | ([], k) :: r, l, h => by cases h; simp
  | (_ :: _, k) :: r, l, h => List.mem_cons_of_mem _ (here_some (ps := r) h)
theorem LpOk.here {nt : Nat} {lp : Nat → Tm → St → Option R3} {c : Code} {ps : Ways} (h : LpOk P nt lp c ps) {l : Nat} (hl : here ps = some l) {T : Tm} {S : St} {r : R3} (hr : lp l T S = some r) : Ho P nt c T S r := by
  have := h _ (here_some hl) T S r hr
  cases c <;> exact this
theorem goL_mem : ∀ {ps : Ways} {q : List Nat × Nat}, q ∈ goL ps → (0 :: q.1, q.2) ∈ ps
  | [], _, h => by cases h
  | (0 :: p, l) :: r, q, h => by
    rcases List.mem_cons.1 h with rfl | h
    · simp
    · exact List.mem_cons_of_mem _ (goL_mem h)
  | ([], l) :: r, q, h => List.mem_cons_of_mem _ (goL_mem (ps := r) h)
  | ((_ + 1) :: p, l) :: r, q, h => List.mem_cons_of_mem _ (goL_mem (ps := r) h)
theorem goR_mem : ∀ {ps : Ways} {q : List Nat × Nat}, q ∈ goR ps → ∃ k, ((k + 1) :: q.1, q.2) ∈ ps
  | [], _, h => by cases h
  | ((k + 1) :: p, l) :: r, q, h => by
    rcases List.mem_cons.1 h with rfl | h
    · exact ⟨k, by simp⟩
    · obtain ⟨k, hk⟩ := goR_mem h; exact ⟨k, List.mem_cons_of_mem _ hk⟩
  | ([], l) :: r, q, h => by obtain ⟨k, hk⟩ := goR_mem (ps := r) h; exact ⟨k, List.mem_cons_of_mem _ hk⟩
  | (0 :: p, l) :: r, q, h => by obtain ⟨k, hk⟩ := goR_mem (ps := r) h; exact ⟨k, List.mem_cons_of_mem _ hk⟩
theorem goA_mem : ∀ {ps : Ways} {q : List Nat × Nat}, q ∈ goA ps → ∃ k, (k :: q.1, q.2) ∈ ps
  | [], _, h => by cases h
  | (k :: p, l) :: r, q, h => by
    rcases List.mem_cons.1 h with rfl | h
    · exact ⟨k, by simp⟩
    · obtain ⟨k, hk⟩ := goA_mem h; exact ⟨k, List.mem_cons_of_mem _ hk⟩
  | ([], l) :: r, q, h => by obtain ⟨k, hk⟩ := goA_mem (ps := r) h; exact ⟨k, List.mem_cons_of_mem _ hk⟩
theorem LpOk.seqL {nt : Nat} {lp : Nat → Tm → St → Option R3} {a b : Code} {ps : Ways} (h : LpOk P nt lp (.seq a b) ps) : LpOk P nt lp a (goL ps) := fun q hq T S r hr => by
  have := h _ (goL_mem hq) T S r hr; rwa [codeAt] at this
theorem LpOk.seqR {nt : Nat} {lp : Nat → Tm → St → Option R3} {a b : Code} {ps : Ways} (h : LpOk P nt lp (.seq a b) ps) : LpOk P nt lp b (goR ps) := fun q hq T S r hr => by
  obtain ⟨k, hk⟩ := goR_mem hq
  have := h _ hk T S r hr
  simpa only [codeAt] using this
theorem LpOk.condL {nt : Nat} {lp : Nat → Tm → St → Option R3} {v : Operand} {a b : Code} {ps : Ways} (h : LpOk P nt lp (.cond v a b) ps) : LpOk P nt lp a (goL ps) := fun q hq T S r hr => by
  have := h _ (goL_mem hq) T S r hr; rwa [codeAt] at this
theorem LpOk.condR {nt : Nat} {lp : Nat → Tm → St → Option R3} {v : Operand} {a b : Code} {ps : Ways} (h : LpOk P nt lp (.cond v a b) ps) : LpOk P nt lp b (goR ps) := fun q hq T S r hr => by
  obtain ⟨k, hk⟩ := goR_mem hq
  have := h _ hk T S r hr
  simpa only [codeAt] using this
theorem LpOk.block {nt : Nat} {lp : Nat → Tm → St → Option R3} {id : Nat} {b : Code} {ps : Ways} (h : LpOk P nt lp (.block id b) ps) : LpOk P nt lp b (goA ps) := fun q hq T S r hr => by
  obtain ⟨k, hk⟩ := goA_mem hq
  have := h _ hk T S r hr
  simpa only [codeAt] using this
theorem LpOk.loop {nt : Nat} {lp : Nat → Tm → St → Option R3} {b : Code} {ps : Ways} (h : LpOk P nt lp (.loop b) ps) : LpOk P nt lp b (goA ps) := fun q hq T S r hr => by
  obtain ⟨k, hk⟩ := goA_mem hq
  have := h _ hk T S r hr
  simpa only [codeAt] using this

theorem one1_some {x : Option (List R3)} {r : R3} (h : one1 x = some r) : x = some [r] := by
  unfold one1 at h
  rw [ob_some] at h
  obtain ⟨rs, hx, h⟩ := h
  split at h
  · cases h; exact hx
  · cases h

theorem Ho.seq {nt : Nat} {a b : Code} {T T1 : Tm} {S S1 : St} {r : R3} (h : Ho P nt a T S (.n, T1, S1)) (k : Ho P nt b T1 S1 r) : Ho P nt (.seq a b) T S r := by
  obtain ⟨h1, h2⟩ := h
  obtain ⟨k1, k2⟩ := k
  have h1 : S.next ≤ S1.next := h1
  refine ⟨Nat.le_trans h1 k1, fun E ac w p => wp_seq (wp_mono (h2 E ac w (p.le k1)) ?_)⟩
  rintro e a1 w1 ⟨E1, hxr, ht, hd, tr⟩
  simp only [XR] at hxr
  subst hxr
  show b.wp P _ a1 w1
  refine wp_mono (k2 E1 a1 w1 (p.next ht hd tr)) ?_
  rintro e a2 w2 ⟨E2, hx2, ht2, hd2, tr2⟩
  exact ⟨E2, hx2, ht2, hd2, tr.trans tr2⟩
theorem Ho.seqX {nt : Nat} {a b : Code} {T : Tm} {S : St} {r : R3} (h : Ho P nt a T S r) (hx : r.1 ≠ .n) : Ho P nt (.seq a b) T S r := by
  refine ⟨h.1, fun E ac w p => wp_seq (wp_mono (h.2 E ac w p) ?_)⟩
  rintro e a1 w1 ⟨E1, hxr, q⟩
  obtain ⟨x, T1, S1⟩ := r
  cases x with
  | n => exact absurd rfl hx
  | e i => simp only [XR] at hxr; subst hxr; exact ⟨E1, rfl, q⟩
  | r => simp only [XR] at hxr; subst hxr; exact ⟨E1, rfl, q⟩
theorem HoL.stepX {nt : Nat} {b : Code} {T : Tm} {S : St} {r : R3} (h : Ho P nt b T S r) (hx : r.1 ≠ .n) : HoL P nt b T S r := by
  refine ⟨h.1, 1, fun E ac w p => ?_⟩
  rw [rounds_succ]
  refine wp_mono (h.2 E ac w p) ?_
  rintro e a1 w1 ⟨E1, hxr, q⟩
  obtain ⟨x, T1, S1⟩ := r
  cases x with
  | n => exact absurd rfl hx
  | e i => simp only [XR] at hxr; subst hxr; exact ⟨E1, rfl, q⟩
  | r => simp only [XR] at hxr; subst hxr; exact ⟨E1, rfl, q⟩
theorem Ho.blk {nt id : Nat} {b : Code} {T : Tm} {S : St} {r : R3} (h : Ho P nt b T S r) : Ho P nt (.block id b) T S (blkR id r) := by
  obtain ⟨x, T1, S1⟩ := r
  have h1 := h.1
  have h2 := h.2
  have hn : (blkR id (x, T1, S1)).2.2.next = S1.next := by
    cases x with
    | n => rfl
    | r => rfl
    | e i => simp only [blkR, on3_eq]; cases i.beq id <;> rfl
  refine ⟨by rw [hn]; exact h1, fun E ac w p => wp_block (wp_mono (h2 E ac w (p.le (by rw [hn]; exact Nat.le_refl _))) ?_)⟩
  rintro e a1 w1 ⟨E1, hxr, ht, hd, tr⟩
  cases x with
  | n => simp only [XR] at hxr; subst hxr; exact ⟨E1, rfl, ht, hd, tr⟩
  | r => simp only [XR] at hxr; subst hxr; exact ⟨E1, rfl, ht, hd, tr⟩
  | e i =>
    simp only [XR] at hxr
    subst hxr
    by_cases e : i = id
    · subst e
      simp only [Exit.inBlock, if_true, blkR, on3_eq, Nat.beq_refl, cond_true]
      exact ⟨E1, rfl, ht, hd, tr⟩
    · simp only [Exit.inBlock, if_neg e, blkR, on3_eq, nbeq_false e, cond_false]
      exact ⟨E1, rfl, ht, hd, tr⟩

theorem loopN_ok {nt : Nat} {b : Code} {f : Tm → St → Option R3} (hf : ∀ T S r, f T S = some r → Ho P nt b T S r) : ∀ (n : Nat) {T : Tm} {S : St} {r : R3}, loopN f n T S = some r → HoL P nt b T S r
  | 0, _, _, _, h => by cases h
  | n + 1, T, S, r, h => by
    have h : ((f T S).ob fun r => on3 (fun x T' S' => match x with | .n => loopN f n T' S' | x => some (x, T', S')) r) = some r := h
    rw [ob_some] at h
    obtain ⟨⟨x, T1, S1⟩, h1, h⟩ := h
    have h1 := hf _ _ _ h1
    cases x with
    | n => exact HoL.step h1 (loopN_ok hf n h)
    | e i => cases h; exact HoL.stepX h1 (by simp)
    | r => cases h; exact HoL.stepX h1 (by simp)

theorem runP_ok (hmix : P.follows .mixedOrders = true) (hx : MxOk P) (hP : NoNum P) {n nt m : Nat} {lp : Nat → Tm → St → Option R3} : ∀ (c : Code) {ps : Ways} {T : Tm} {S : St} {r : R3}, LpOk P nt lp c ps →
    runP (run pol (planOf pol) P n) lp nt m c ps T S = some r → Ho P nt c T S r := by
  intro c
  induction c with
  | seq a b iha ihb =>
    intro ps T S r hl h
    rw [runP] at h
    cases he : ps.isEmpty <;> rw [he] at h
    rotate_left
    · exact Ho.of hmix hx hP (one1_some h)
    rw [cond_false] at h
    split at h
    · rename_i l hh; exact hl.here hh h
    · rw [ob_some] at h
      obtain ⟨⟨x, T1, S1⟩, h1, h⟩ := h
      have h1 := iha hl.seqL h1
      cases x with
      | n => exact h1.seq (ihb hl.seqR h)
      | e i => cases h; exact h1.seqX (by simp)
      | r => cases h; exact h1.seqX (by simp)
  | block id b ih =>
    intro ps T S r hl h
    rw [runP] at h
    cases he : ps.isEmpty <;> rw [he] at h
    rotate_left
    · exact Ho.of hmix hx hP (one1_some h)
    rw [cond_false] at h
    split at h
    · rename_i l hh; exact hl.here hh h
    · rw [ob_some] at h
      obtain ⟨r1, h1, h⟩ := h
      cases h
      exact (ih hl.block h1).blk
  | cond v a b iha ihb =>
    intro ps T S r hl h
    rw [runP] at h
    cases he : ps.isEmpty <;> rw [he] at h
    rotate_left
    · exact Ho.of hmix hx hP (one1_some h)
    rw [cond_false] at h
    split at h
    · rename_i l hh; exact hl.here hh h
    · rw [ob_some] at h
      obtain ⟨u, hu, h⟩ := h
      split at h
      · have h1 := iha hl.condL h
        refine ⟨h1.1, fun E ac w p => ?_⟩
        have hv := ev_rel p.tr p.pr hu
        simp only [VR] at hv
        exact wp_cond_true hv (h1.2 E ac w p)
      · have h1 := ihb hl.condR h
        refine ⟨h1.1, fun E ac w p => ?_⟩
        have hv := ev_rel p.tr p.pr hu
        simp only [VR] at hv
        exact wp_cond_false hv (h1.2 E ac w p)
      · cases h
  | loop b ih =>
    intro ps T S r hl h
    rw [runP] at h
    cases he : ps.isEmpty <;> rw [he] at h
    rotate_left
    · exact Ho.of hmix hx hP (one1_some h)
    rw [cond_false] at h
    split at h
    · rename_i l hh; exact hl.here hh h
    · exact (loopN_ok (fun T S r hr => ih hl.loop hr) m h).ho
  | _ =>
    intro ps T S r hl h
    simp only [runP] at h
    cases he : ps.isEmpty <;> rw [he] at h
    rotate_left
    · exact Ho.of hmix hx hP (one1_some h)
    rw [cond_false] at h
    split at h
    · rename_i l hh; exact hl.here hh h
    · exact Ho.of hmix hx hP (one1_some h)

/-! states that are written out -/
noncomputable def tmOf : List (Nat × AV) → Tm
  | [] => .lf
  | p :: l => (tmOf l).put p.1 p.2
noncomputable def heapOf : List (Nat × AB) → Tr AB
  | [] => .lf
  | p :: l => (heapOf l).put p.1 p.2
noncomputable def stOf (l : List (Nat × AB)) (n : Nat) : St := ⟨heapOf l, n⟩
abbrev LE1 := Nat × Tm × St × R3
noncomputable def lookL : List LE1 → Nat → Tm → St → Option R3
  | [], _, _, _ => none
  | e :: l, k, T, S => bif e.1.beq k && (e.2.2.1.next.beq S.next && subS e.2.1 e.2.2.1 T S) then some e.2.2.2 else lookL l k T S
theorem lookL_ok {nt : Nat} {c : Code} {ps : Ways} : ∀ {tab : List LE1}, (∀ e ∈ tab, ∀ q ∈ ps, q.2 = e.1 → Ho P nt (codeAt c q.1) e.2.1 e.2.2.1 e.2.2.2) → LpOk P nt (lookL tab) c ps
  | [], _, q, _, T, S, r, h => by cases h
  | e :: tab, hk, q, hq, T, S, r, h => by
    unfold lookL at h
    cases hb : (e.1.beq q.2 && (e.2.2.1.next.beq S.next && subS e.2.1 e.2.2.1 T S)) <;> rw [hb] at h
    · exact lookL_ok (fun d hd => hk d (List.mem_cons_of_mem _ hd)) q hq T S r h
    · rw [cond_true] at h
      cases h
      simp only [Bool.and_eq_true, nbeq_iff] at hb
      exact (hk e (by simp) q hq hb.1.symm).weak hb.2.2

theorem known_nilL {Q : LE1 → Prop} : ∀ e ∈ ([] : List LE1), Q e := fun _ h => by cases h
theorem known_consL {Q : LE1 → Prop} {e : LE1} {l : List LE1} (h : Q e) (hl : ∀ e ∈ l, Q e) : ∀ d ∈ e :: l, Q d := fun d hd => by
  rcases List.mem_cons.1 hd with rfl | hd
  · exact h
  · exact hl d hd
theorem known_nilW {Q : List Nat × Nat → Prop} : ∀ e ∈ ([] : Ways), Q e := fun _ h => by cases h
theorem known_consW {Q : List Nat × Nat → Prop} {e : List Nat × Nat} {l : Ways} (h : Q e) (hl : ∀ e ∈ l, Q e) : ∀ d ∈ e :: l, Q d := fun d hd => by
  rcases List.mem_cons.1 hd with rfl | hd
  · exact h
  · exact hl d hd

/-- what a pure call returns, by a run with marks -/
noncomputable def resP (P : Program) (fn : Func) (r : Option R3) : Option AV := r.ob fun r => on3 (fun x T' S' => (chk x.back).ob fun _ => (ressA P T' S' fn.results.toList).ob fun vs => (frz frzFuel S' (tupR vs)).o2 fun q _ => some q) r
theorem pure_of_Ho {f : FuncId} {fn : Func} {c : Code} {args : List AV} {r : R3} {q : AV} (hf : P.funcs[f]? = some fn) (hb : fn.body = some c) (hle : args.length ≤ fn.ntmps) (h : Ho P fn.ntmps c (argsT args 0) ⟨.lf, 0⟩ r) (hres : resP P fn (some r) = some q) : PureOk P f args q := by
  intro E w vs ha hl pr
  refine calls_of_wp hf hb ?_
  have ht : TR E.ice fn.ntmps (argsT args 0).get { tmps := vs ++ Array.replicate (fn.ntmps - vs.size) undef, defers := [] } := by
    refine ⟨by simp; omega, fun t y hy => ?_⟩
    rw [argsT_get] at hy
    simp only [Nat.zero_le, if_true, Nat.sub_zero] at hy
    obtain ⟨u, hu, hyu⟩ := ha.get hy
    refine ⟨u, ?_, hyu⟩
    have hlt : t < vs.size := by
      have := (List.getElem?_eq_some_iff.1 hu).1
      simpa using this
    rw [Array.getElem?_append_left hlt]
    simpa using hu
  refine wp_mono (h.2 E.ice _ w ⟨ht, HR.empty E.ice w, pr.ice, fun n _ _ d => d, rfl⟩) ?_
  rintro e a' w' ⟨E2, hxr, ht', hd, t2⟩
  obtain ⟨x, T', S2⟩ := r
  simp only [resP, o2_eq, on3_eq, ob_some, chk_some, Option.some.injEq] at hres
  obtain ⟨_, rfl, _, hbk, us, hus, ⟨q', S3⟩, h3, rfl⟩ := hres
  obtain ⟨v', hres, hv'⟩ := results_run (P := P) (fn := fn) ht' t2.hr t2.pr hus
  obtain ⟨E3, hv3, _, t3⟩ := frz_ok _ E2 S2 S3 w' (tupR us) q' v' h3 hv' t2.hr t2.pr
  have t := t2.trans2 t3 (Nat.zero_le _) (Nat.le_refl _)
  cases x with
  | n => simp only [XR] at hxr; subst hxr; exact ⟨hd, v', hres, v', E3, rfl, hv3, t.pr.ice, t.ext.prot, t.size, fun b hb => ⟨t.frame b hb (fun n c hc => by simp at hc), t.prot b hb (fun n c hc => by simp at hc)⟩, t.env⟩
  | e id => simp [X.back] at hbk
  | r => simp only [XR] at hxr; subst hxr; exact ⟨hd, v', hres, v', E3, rfl, hv3, t.pr.ice, t.ext.prot, t.size, fun b hb => ⟨t.frame b hb (fun n c hc => by simp at hc), t.prot b hb (fun n c hc => by simp at hc)⟩, t.env⟩
end

theorem known_marks [Gl] {mx : Mx} {P : Program} {pol : FuncId → Bool} {n m : Nat} {f : FuncId} {fn : Func} {c : Code} {args : List AV} {v : AV} {lp : Nat → Tm → St → Option R3} {ps : Ways} (hmix : P.follows .mixedOrders = true) (hx : @MxOk _ mx P) (hP : @NoNum P)
    (hf : P.funcs[f]? = some fn) (hb : fn.body = some c) (hle : Nat.ble args.length fn.ntmps = true) (hl : LpOk P fn.ntmps lp c ps)
    (h : isV v (resP P fn (@runP _ (@run _ mx pol (planOf pol) P n) lp fn.ntmps m c ps (argsT args 0) ⟨.lf, 0⟩)) = true) : Known P (f, args, v) := by
  refine ⟨⟨fn, hf, by rw [hb]; rfl⟩, ?_⟩
  have h := isV_eq h
  generalize hr : @runP _ (@run _ mx pol (planOf pol) P n) lp fn.ntmps m c ps (argsT args 0) ⟨.lf, 0⟩ = r at h
  cases r with
  | none => simp [resP, Option.ob] at h
  | some r => exact @pure_of_Ho _ mx _ _ _ _ _ _ _ hf hb (nble_iff.1 hle) (@runP_ok _ mx _ _ hmix hx hP _ _ _ _ _ _ _ _ _ hl hr) h
end Go.Eng
namespace Go.Eng
set_option linter.unusedSectionVars false
variable [Gl] [Mx]

noncomputable def convs (g : DataW Unit → Option (List AV)) : List (DataW Unit) → Option (List AV)
  | [] => some []
  | d :: ds => (g d).ob fun x => (convs g ds).ob fun y => some (x ++ y)

noncomputable def convF (P : Program) (g : TypeId → DataW Unit → Option (List AV)) : Nat → List Field → List (DataW Unit) → Option (List AV)
  | _, [], [] => some []
  | off, f :: fs, d :: ds => (chk (f.offset.beq off)).ob fun _ => (g f.type d).ob fun x => (chk (x.length.beq (P.cellsOf f.type))).ob fun _ =>
      (convF P g (off + P.cellsOf f.type) fs ds).ob fun y => some (x ++ y)
  | _, _, _ => none

/-- a datum as the engine's frozen cells -/
noncomputable def conv (P : Program) : Nat → TypeId → DataW Unit → Option (List AV)
  | 0, _, _ => none
  | f + 1, t, d => match P.underlying t, d with
    | some .bool, .lit (.bool b) => some [.bool b]
    | some (.int _), .lit (.int k n) => some [.int k n]
    | some .string, .lit (.string s) => some [.str ⟨s.toArray⟩]
    | some (.slice e), .slice (x :: xs) _ => (chk (Nat.blt 0 (P.cellsOf e))).ob fun _ => (convs (fun d => (conv P f e d).ob fun y => (chk (y.length.beq (P.cellsOf e))).ob fun _ => some y) (x :: xs)).ob fun cs => some [.fs cs (xs.length + 1)]
    | some (.struct fs), .agg ds => (convF P (conv P f) 0 fs.toList ds).ob fun r => (chk (r.length.beq (P.cellsOf t))).ob fun _ => some r
    | some (.array _ e), .agg ds => (convs (fun d => (conv P f e d).ob fun y => (chk (y.length.beq (P.cellsOf e))).ob fun _ => some y) ds).ob fun r => (chk (r.length.beq (P.cellsOf t))).ob fun _ => some r
    | _, _ => none

def allProt (w : World) (b : Nat) : Option (Array Value) := match w.heap[b]? with
  | some (.cells arr _ _) => some arr
  | _ => none

def Gh.all (w : World) : Gh := { dom := fun _ => False, blk := fun _ => 0, sh := fun _ => 0, bsz := fun _ => 0, prot := allProt w }

theorem all_blk (w : World) (b : Nat) (arr : Array Value) (h : (Gh.all w).prot b = some arr) : ∃ el fz, w.heap[b]? = some (.cells arr el fz) := by
  have h : allProt w b = some arr := h
  unfold allProt at h
  split at h
  · rename_i c el fz hw; cases h; exact ⟨el, fz, hw⟩
  · cases h

theorem cell_prot {w : World} {a : Addr} {v : Value} (h : w.cell? a = some v) : a.spot = none ∧ ∃ arr, allProt w a.block = some arr ∧ arr[a.off]? = some v := by
  unfold World.cell? at h
  split at h
  · rename_i c el fz hw
    split at h
    · cases h
    · rename_i hs
      refine ⟨by cases hsp : a.spot <;> simp_all, c, by unfold allProt; rw [hw], h⟩
  · cases h

theorem cells_prot {w : World} {base : Nat} {a : Addr} {n : Nat} {cs : List Value} (h : w.cells? base a n = some cs) (hn : 0 < n) :
    a.spot = none ∧ ∃ arr, allProt w a.block = some arr ∧ cs = (arr.toList.drop a.off).take n ∧ cs.length = n := by
  unfold World.cells? at h
  split at h
  · have at' : ∀ (l : List Nat) (r : List Value), l.mapM (fun i => w.cell? (a.add i)) = some r → r.length = l.length ∧ ∀ (i k : Nat), l[i]? = some k → ∃ v, r[i]? = some v ∧ w.cell? (a.add k) = some v := by
      intro l
      induction l with
      | nil => intro r h; simp at h; subst h; simp
      | cons x l ih =>
        intro r h
        simp only [List.mapM_cons, Option.bind_eq_bind, Option.bind_eq_some_iff, Option.pure_def, Option.some.injEq] at h
        obtain ⟨v, hv, r', hr', rfl⟩ := h
        obtain ⟨h1, h2⟩ := ih r' hr'
        refine ⟨by simp [h1], fun i k hk => ?_⟩
        cases i with
        | zero => simp at hk; subst hk; exact ⟨v, rfl, hv⟩
        | succ i => simpa using h2 i k (by simpa using hk)
    obtain ⟨hl, hat⟩ := at' _ _ h
    obtain ⟨v0, _, hc0⟩ := hat 0 0 (by simp [hn])
    have e0 : a.add 0 = a := by simp [Addr.add]
    rw [e0] at hc0
    obtain ⟨hs, arr, harr, _⟩ := cell_prot hc0
    refine ⟨hs, arr, harr, ?_, by simpa using hl⟩
    have each : ∀ i, i < n → cs[i]? = arr[a.off + i]? ∧ (arr[a.off + i]?).isSome := by
      intro i hi
      obtain ⟨v, hv, hc⟩ := hat i i (by simp [hi])
      obtain ⟨_, arr', harr', hv'⟩ := cell_prot hc
      have eb : (a.add i).block = a.block := by unfold Addr.add; split <;> rfl
      have eo : (a.add i).off = a.off + i := by unfold Addr.add; split <;> simp_all
      rw [eb, harr] at harr'
      cases harr'
      rw [eo] at hv'
      exact ⟨by rw [hv, hv'], by rw [hv']; rfl⟩
    have hlen : cs.length = n := by simpa using hl
    apply List.ext_getElem?
    intro i
    by_cases hi : i < n
    · rw [(each i hi).1, List.getElem?_take, if_pos hi, List.getElem?_drop, Array.getElem?_toList]
    · rw [List.getElem?_eq_none (by omega), List.getElem?_take, if_neg hi]
  · cases h

theorem mapM_cons_some {α β : Type} {f : α → Option β} {x : α} {l : List α} {r : List β} (h : (x :: l).mapM f = some r) : ∃ y ys, f x = some y ∧ l.mapM f = some ys ∧ r = y :: ys := by
  simp only [List.mapM_cons, Option.bind_eq_bind, Option.bind_eq_some_iff, Option.pure_def, Option.some.injEq] at h
  obtain ⟨y, hy, ys, hys, rfl⟩ := h
  exact ⟨y, ys, hy, hys, rfl⟩

theorem elems_vr {P : Program} {w : World} {base : Nat} {e : TypeId} {a : Addr} {arr : Array Value} {tr : List Value → Option (DataW Unit × List MemPlace)} {g : DataW Unit → Option (List AV)} (hz : 0 < P.cellsOf e) (harr : allProt w a.block = some arr)
    (htr : ∀ cs d ps, tr cs = some (d, ps) → ∀ xs, g d = some xs → VRP (Gh.all w) xs cs ∧ xs.length = cs.length) :
    ∀ (n i : Nat) (el : List (DataW Unit × List MemPlace)), (List.range' i n).mapM (fun i => (w.cells? base (a.add (i * P.cellsOf e)) (P.cellsOf e)).bind tr) = some el → ∀ ys, convs g (el.map (·.1)) = some ys →
      VRP (Gh.all w) ys (arr.toList.drop (a.off + i * P.cellsOf e))
  | 0, i, el, h, ys, hy => by
    simp at h
    subst h
    simp only [List.map_nil, convs, Option.some.injEq] at hy
    subst hy
    exact VRP.nil
  | n + 1, i, el, h, ys, hy => by
    rw [List.range'_succ] at h
    obtain ⟨y, el', h1, h2, rfl⟩ := mapM_cons_some h
    simp only [List.map_cons, convs, o2_eq, on3_eq, ob_some, Option.some.injEq] at hy
    obtain ⟨x, hx, ys', hys, rfl⟩ := hy
    have hrest := elems_vr hz harr htr n (i + 1) el' h2 ys' hys
    obtain ⟨cs, hcs, hd⟩ := Option.bind_eq_some_iff.1 h1
    obtain ⟨_, arr', harr', hc, hl⟩ := cells_prot hcs hz
    have eb : (a.add (i * P.cellsOf e)).block = a.block := by unfold Addr.add; split <;> rfl
    have eo : (a.add (i * P.cellsOf e)).off = a.off + i * P.cellsOf e := by unfold Addr.add; split <;> simp_all
    rw [eb, harr] at harr'
    cases harr'
    rw [eo] at hc
    obtain ⟨hv, hvl⟩ := htr cs y.1 y.2 hd x hx
    rw [← List.take_append_drop (P.cellsOf e) (arr.toList.drop (a.off + i * P.cellsOf e)), ← hc]
    refine VRP.append hv hvl ?_
    rw [List.drop_drop]
    have : a.off + i * P.cellsOf e + P.cellsOf e = a.off + (i + 1) * P.cellsOf e := by rw [Nat.succ_mul]; omega
    rw [this]
    exact hrest

theorem fields_vr {P : Program} {w : World} {cs : List Value} {tr : TypeId → List Value → Option (DataW Unit × List MemPlace)} {g : TypeId → DataW Unit → Option (List AV)}
    (htr : ∀ t cs d ps, tr t cs = some (d, ps) → ∀ xs, g t d = some xs → VRP (Gh.all w) xs cs ∧ xs.length = cs.length) :
    ∀ (fs : List Field) (off : Nat) (el : List (DataW Unit × List MemPlace)), fs.mapM (fun f => tr f.type ((cs.drop f.offset).take (P.cellsOf f.type))) = some el → ∀ ys, convF P g off fs (el.map (·.1)) = some ys →
      VRP (Gh.all w) ys (cs.drop off)
  | [], off, el, h, ys, hy => by
    simp at h
    subst h
    simp only [List.map_nil, convF, Option.some.injEq] at hy
    subst hy
    exact VRP.nil
  | f :: fs, off, el, h, ys, hy => by
    obtain ⟨y, el', h1, h2, rfl⟩ := mapM_cons_some h
    simp only [List.map_cons, convF, o2_eq, on3_eq, ob_some, chk_some, nbeq_iff, Option.some.injEq] at hy
    obtain ⟨_, ho, x, hx, _, hl, ys', hys, rfl⟩ := hy
    have hrest := fields_vr htr fs _ el' h2 ys' hys
    obtain ⟨hv, hvl⟩ := htr _ _ y.1 y.2 h1 x hx
    rw [← List.take_append_drop (P.cellsOf f.type) (cs.drop off)]
    rw [ho] at hv hvl
    refine VRP.append hv hvl ?_
    rw [List.drop_drop]
    exact hrest

theorem parts_vr {w : World} {sz : Nat} {cs : List Value} {tr : List Value → Option (DataW Unit × List MemPlace)} {g : DataW Unit → Option (List AV)}
    (htr : ∀ cs d ps, tr cs = some (d, ps) → ∀ xs, g d = some xs → VRP (Gh.all w) xs cs ∧ xs.length = cs.length ∧ xs.length = sz) :
    ∀ (n i : Nat) (el : List (DataW Unit × List MemPlace)), (List.range' i n).mapM (fun i => tr ((cs.drop (i * sz)).take sz)) = some el → ∀ ys, convs g (el.map (·.1)) = some ys → VRP (Gh.all w) ys (cs.drop (i * sz))
  | 0, i, el, h, ys, hy => by
    simp at h
    subst h
    simp only [List.map_nil, convs, Option.some.injEq] at hy
    subst hy
    exact VRP.nil
  | n + 1, i, el, h, ys, hy => by
    rw [List.range'_succ] at h
    obtain ⟨y, el', h1, h2, rfl⟩ := mapM_cons_some h
    simp only [List.map_cons, convs, o2_eq, on3_eq, ob_some, Option.some.injEq] at hy
    obtain ⟨x, hx, ys', hys, rfl⟩ := hy
    have hrest := parts_vr htr n (i + 1) el' h2 ys' hys
    obtain ⟨hv, hvl, _⟩ := htr _ y.1 y.2 h1 x hx
    rw [← List.take_append_drop sz (cs.drop (i * sz))]
    refine VRP.append hv hvl ?_
    rw [List.drop_drop]
    have : i * sz + sz = (i + 1) * sz := by rw [Nat.succ_mul]
    rw [this]
    exact hrest

theorem trod_vr {P : Program} {w : World} {base : Nat} {sp : Nat → Bool} : ∀ (fuel : Nat) (t : TypeId) (cs : List Value) (d : DataW Unit) (ps : List MemPlace), DataW.trod (fun _ => ()) P w base sp false fuel t cs = some (d, ps) →
    ∀ (f : Nat) (xs : List AV), conv P f t d = some xs → VRP (Gh.all w) xs cs ∧ xs.length = cs.length
  | 0, _, _, _, _, h, _, _, _ => by simp [DataW.trod] at h
  | fuel + 1, t, cs, d, ps, h, 0, xs, hc => by simp [conv] at hc
  | fuel + 1, t, cs, d, ps, h, f + 1, xs, hc => by
    have ih := trod_vr (P := P) (w := w) (base := base) (sp := sp) fuel
    unfold conv at hc
    split at hc
    · rename_i b hu
      cases hc
      simp only [DataW.trod, hu] at h
      split at h <;> simp_all [VRP, VR]
    · rename_i k0 k n hu
      cases hc
      simp only [DataW.trod, hu] at h
      split at h <;> simp_all [VRP, VR]
    · rename_i s hu
      cases hc
      simp only [DataW.trod, hu] at h
      split at h <;> simp_all [VRP, VR]
      obtain ⟨_, rfl, _⟩ := h
      rfl
    · rename_i e x xs' spare hu
      simp only [o2_eq, on3_eq, ob_some, chk_some, nblt_iff, Option.some.injEq] at hc
      obtain ⟨_, hz, ys, hys, rfl⟩ := hc
      unfold DataW.trod at h
      rw [hu] at h
      split at h <;> rename_i heq <;> first | (cases heq; done) | skip
      all_goals first | (simp at h; done) | skip
      · rename_i a len cap
        cases heq
        split at h
        · rename_i hb
          obtain ⟨el, hel, h⟩ := Option.bind_eq_some_iff.1 h
          obtain ⟨rest, _, h⟩ := Option.map_eq_some_iff.1 h
          simp only [Prod.mk.injEq, DataW.slice.injEq] at h
          obtain ⟨⟨he, _⟩, _⟩ := h
          have hlen : el.length = len := by
            have : ∀ (l : List Nat) (r : List (DataW Unit × List MemPlace)) (f : Nat → Option (DataW Unit × List MemPlace)), l.mapM f = some r → r.length = l.length := by
              intro l
              induction l with
              | nil => intro r f h; simp at h; subst h; rfl
              | cons x l ih => intro r f h; obtain ⟨y, ys, _, h2, rfl⟩ := mapM_cons_some h; simp [ih _ _ h2]
            simpa using this _ _ _ hel
          have hl2 : len = xs'.length + 1 := by
            have := congrArg List.length he
            simp at this; omega
          have hel0 := hel
          rw [List.range_eq_range', hl2, List.range'_succ] at hel0
          obtain ⟨y0, _, h0, _, _⟩ := mapM_cons_some hel0
          obtain ⟨cs0, hcs0, _⟩ := Option.bind_eq_some_iff.1 h0
          have ea : a.add (0 * P.cellsOf e) = a := by simp [Addr.add]
          rw [ea] at hcs0
          obtain ⟨hsp, arr, harr, _, _⟩ := cells_prot hcs0 hz
          rw [List.range_eq_range'] at hel
          rw [← he] at hys
          have key := elems_vr (g := fun d => (conv P f e d).ob fun y => (chk (y.length.beq (P.cellsOf e))).ob fun _ => some y) hz harr (fun cs d ps hd xs hx => by
            simp only [o2_eq, on3_eq, ob_some, chk_some, Option.some.injEq] at hx
            obtain ⟨y, hy, _, _, rfl⟩ := hx
            exact ih e cs d ps hd f y hy) _ _ _ hel _ hys
          rw [Nat.zero_mul, Nat.add_zero] at key
          obtain ⟨ab, ao, asp⟩ := a
          simp only at hsp harr key
          subst hsp
          refine ⟨?_, rfl⟩
          simp only [VRP, VR, and_true]
          exact .inl ⟨ab, ao, none, cap, by rw [hl2], by omega, .inr ⟨rfl, arr, harr, key⟩⟩
        · cases h
    · rename_i fs ds hu
      simp only [o2_eq, on3_eq, ob_some, chk_some, nbeq_iff, Option.some.injEq] at hc
      obtain ⟨r, hr, _, hl, rfl⟩ := hc
      unfold DataW.trod at h
      rw [hu] at h
      split at h <;> rename_i heq <;> first | (cases heq; done) | skip
      all_goals first | (simp at h; done) | skip
      · rename_i cs
        cases heq
        split at h
        · rename_i hcl
          obtain ⟨el, hel, h⟩ := Option.map_eq_some_iff.1 h
          simp only [Prod.mk.injEq, DataW.agg.injEq] at h
          obtain ⟨he, _⟩ := h
          rw [← he] at hr
          have key := fields_vr (w := w) (g := conv P f) (fun t cs d ps hd xs hx => ih t cs d ps hd f xs hx) _ _ _ hel _ hr
          rw [List.drop_zero] at key
          exact ⟨key, by omega⟩
        · cases h
      · exact (‹∀ fs_1 : Array Field, some (TypeDesc.struct fs) = some (TypeDesc.struct fs_1) → False› fs rfl).elim
    · rename_i n e ds hu
      simp only [o2_eq, on3_eq, ob_some, chk_some, nbeq_iff, Option.some.injEq] at hc
      obtain ⟨r, hr, _, hl, rfl⟩ := hc
      unfold DataW.trod at h
      rw [hu] at h
      split at h <;> rename_i heq <;> first | (cases heq; done) | skip
      all_goals first | (simp at h; done) | skip
      · rename_i cs
        cases heq
        split at h
        · rename_i hcl
          obtain ⟨el, hel, h⟩ := Option.map_eq_some_iff.1 h
          simp only [Prod.mk.injEq, DataW.agg.injEq] at h
          obtain ⟨he, _⟩ := h
          rw [← he] at hr
          rw [List.range_eq_range'] at hel
          have key := parts_vr (w := w) (g := fun d => (conv P f e d).ob fun y => (chk (y.length.beq (P.cellsOf e))).ob fun _ => some y) (fun cs d ps hd xs hx => by
            simp only [o2_eq, on3_eq, ob_some, chk_some, nbeq_iff, Option.some.injEq] at hx
            obtain ⟨y, hy, _, hyl, rfl⟩ := hx
            obtain ⟨h1, h2⟩ := ih e cs d ps hd f y hy
            exact ⟨h1, h2, hyl⟩) _ _ _ hel _ hr
          rw [Nat.zero_mul, List.drop_zero] at key
          exact ⟨key, by omega⟩
        · cases h
      · exact (‹∀ (n_1 : Nat) (e_1 : TypeId), some (TypeDesc.array n e) = some (TypeDesc.array n_1 e_1) → False› n e rfl).elim
    · cases hc

/-- every listed variable, in the list's order -/
theorem laid_vars {P : Program} {w : World} : ∀ {laid : List (String × DataW Unit)} {ps : List MemPlace}, DataW.LaidVars P w laid ps → ∀ n d, (n, d) ∈ laid → ∀ g t, P.globalNamed n = some g → (P.globals[g]?).map (·.type) = some t →
    ∀ f xs, conv P f t d = some xs → VR (Gh.all w) (.fp xs) (.pointer (some ⟨g, 0, none⟩))
  | [], _, _, n, d, hm, _, _, _, _, _, _, _ => by simp at hm
  | (n0, d0) :: r, ps, h, n, d, hm, g, t, hg, ht, f, xs, hc => by
    obtain ⟨g', t', cs, fuel, p, q, hg', ht', hv, htr, hr, _⟩ := h
    rcases List.mem_cons.1 hm with e | hm
    · cases e
      rw [hg] at hg'; cases hg'
      rw [ht] at ht'; cases ht'
      obtain ⟨hx, _⟩ := trod_vr fuel _ cs.toList _ p htr f xs hc
      unfold World.var? at hv
      rw [hg] at hv
      simp only [Option.bind_some] at hv
      split at hv
      · rename_i arr el fz hw
        cases hv
        simp only [VR]
        exact ⟨g, 0, rfl, cs, by show allProt w g = some cs; unfold allProt; rw [hw], by have hx' : VRP (Gh.all w).ice xs cs.toList := hx; simpa using hx'⟩
      · cases hv
    · exact laid_vars hr n d hm g t hg ht f xs hc

def laid_of {w : World} (h : ∀ g v, Gl.g g = some v → VR (Gh.all w) v (.pointer (some ⟨g, 0, none⟩))) : Laid w := ⟨allProt w, ⟨all_blk w, h⟩⟩
end Go.Eng
