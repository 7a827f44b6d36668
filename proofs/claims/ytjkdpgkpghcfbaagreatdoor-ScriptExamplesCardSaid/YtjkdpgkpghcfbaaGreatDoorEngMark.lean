/-
  Long calls in pieces: loops that are run from one noted state to the next, and codes with marks in place of such loops.
-/
import Derived.Test.YtjkdpgkpghcfbaaGreatDoorEngKnown
set_option linter.unusedSimpArgs false
set_option linter.unusedVariables false
namespace Go.Eng
set_option linter.unusedSectionVars false
section
variable [Gl] [Mx] {P : Program} {pol : FuncId → Bool} {rec : RunT}

abbrev R3 := X × Tm × St

/-- what is known of a code's end -/
def Po (E : Gh) (nt : Nat) (S : St) (w : World) (r : R3) (e : Exit) (a' : Act) (w' : World) : Prop :=
  ∃ E', XR r.1 e ∧ TR E' nt r.2.1.get a' ∧ a'.defers = [] ∧ Tran E S.heap.get w S.next E' r.2.2.heap.get w' r.2.2.next
/-- the states that slots and memory speak of -/
structure Pre (E : Gh) (nt : Nat) (T : Tm) (S : St) (m : Nat) (a : Act) (w : World) : Prop where
  tr : TR E nt T.get a
  hr : HR E S.heap.get w
  pr : PR E w
  fresh : ∀ n, S.next ≤ n → n < m → ¬ E.dom n
  df : a.defers = []
/-- what a code does from slots and memory -/
def Ho (P : Program) (nt : Nat) (c : Code) (T : Tm) (S : St) (r : R3) : Prop := S.next ≤ r.2.2.next ∧
  ∀ E a w, Pre E nt T S r.2.2.next a w → c.wp P (Po E nt S w r) a w
/-- .. and a loop -/
def HoL (P : Program) (nt : Nat) (b : Code) (T : Tm) (S : St) (r : R3) : Prop := S.next ≤ r.2.2.next ∧
  ∃ n, ∀ E a w, Pre E nt T S r.2.2.next a w → Code.rounds P b (Po E nt S w r) n a w

theorem Ho.of (hmix : P.follows .mixedOrders = true) (hx : MxOk P) (hP : NoNum P) {n nt : Nat} {c : Code} {T : Tm} {S : St} {r : R3} (h : run pol (planOf pol) P n nt c T S = some [r]) : Ho P nt c T S r := by
  obtain ⟨h1, h2, _, _⟩ := run_ok (pol := pol) hmix hx hP n
  refine ⟨h2 _ _ _ _ _ h r (by simp), fun E a w p => ?_⟩
  refine wp_mono (h1 _ _ _ _ _ h E a w p.tr p.hr p.pr (fun r' hr => by rw [List.mem_singleton.1 hr]; exact p.fresh) p.df) ?_
  rintro e a' w' ⟨r', hr, E', q⟩
  obtain rfl := List.mem_singleton.1 hr
  exact ⟨E', q⟩
theorem HoL.of (hmix : P.follows .mixedOrders = true) (hx : MxOk P) (hP : NoNum P) {n nt : Nat} {b : Code} {T : Tm} {S : St} {r : R3} (h : run pol (planOf pol) P n nt (.loop b) T S = some [r]) : HoL P nt b T S r := by
  obtain ⟨_, h2, _, h4⟩ := run_ok (pol := pol) hmix hx hP n
  refine ⟨h2 _ _ _ _ _ h r (by simp), n, fun E a w p => ?_⟩
  refine rounds_mono ?_ n a w (h4 _ _ _ _ _ h E a w p.tr p.hr p.pr (fun r' hr => by rw [List.mem_singleton.1 hr]; exact p.fresh) p.df)
  rintro e a' w' ⟨r', hr, E', q⟩
  obtain rfl := List.mem_singleton.1 hr
  exact ⟨E', q⟩
theorem HoL.ho {nt : Nat} {b : Code} {T : Tm} {S : St} {r : R3} (h : HoL P nt b T S r) : Ho P nt (.loop b) T S r :=
  ⟨h.1, fun E a w p => let ⟨n, hn⟩ := h.2; wp_loop_rounds n (hn E a w p)⟩

/-- a first part that ends in the normal way leads to the states of the second -/
theorem Pre.next {E E1 : Gh} {nt m : Nat} {T T1 : Tm} {S S1 : St} {a a1 : Act} {w w1 : World} (p : Pre E nt T S m a w) (ht : TR E1 nt T1.get a1) (hd : a1.defers = []) (tr : Tran E S.heap.get w S.next E1 S1.heap.get w1 S1.next) : Pre E1 nt T1 S1 m a1 w1 :=
  ⟨ht, tr.hr, tr.pr, tran_fresh tr p.fresh, hd⟩
theorem Pre.le {E : Gh} {nt m k : Nat} {T : Tm} {S : St} {a : Act} {w : World} (p : Pre E nt T S m a w) (h : k ≤ m) : Pre E nt T S k a w :=
  ⟨p.tr, p.hr, p.pr, fun n h1 h2 => p.fresh n h1 (Nat.lt_of_lt_of_le h2 h), p.df⟩

theorem HoL.step {nt : Nat} {b : Code} {T T1 : Tm} {S S1 : St} {r : R3} (h : Ho P nt b T S (.n, T1, S1)) (k : HoL P nt b T1 S1 r) : HoL P nt b T S r := by
  obtain ⟨h1, h2⟩ := h
  obtain ⟨k1, n, k2⟩ := k
  have h1 : S.next ≤ S1.next := h1
  refine ⟨Nat.le_trans h1 k1, n + 1, fun E a w p => ?_⟩
  rw [rounds_succ]
  refine wp_mono (h2 E a w (p.le k1)) ?_
  rintro e a1 w1 ⟨E1, hxr, ht, hd, tr⟩
  simp only [XR] at hxr
  subst hxr
  show Code.rounds P b _ n a1 w1
  refine rounds_mono ?_ n a1 w1 (k2 E1 a1 w1 (p.next ht hd tr))
  rintro e a2 w2 ⟨E2, hx2, ht2, hd2, tr2⟩
  exact ⟨E2, hx2, ht2, hd2, tr.trans tr2⟩

/-- some rounds of a loop -/
noncomputable def itN (rec : RunT) (nt : Nat) (b : Code) (k : Nat) : Tm → St → Option (Tm × St) :=
  Nat.rec (motive := fun _ => Tm → St → Option (Tm × St)) (fun T S => some (T, S)) (fun _ ih T S => (rec nt b T S).ob fun rs => match rs with
    | [r] => on3 (fun x T' S' => match x with | .n => ih T' S' | _ => none) r
    | _ => none) k
theorem HoL.its (hmix : P.follows .mixedOrders = true) (hx : MxOk P) (hP : NoNum P) {n nt : Nat} {b : Code} {r : R3} : ∀ {k : Nat} {T T1 : Tm} {S S1 : St}, itN (run pol (planOf pol) P n) nt b k T S = some (T1, S1) → HoL P nt b T1 S1 r → HoL P nt b T S r
  | 0, T, T1, S, S1, h, hl => by cases h; exact hl
  | k + 1, T, T1, S, S1, h, hl => by
    have h : ((run pol (planOf pol) P n nt b T S).ob fun rs => match rs with
      | [r] => on3 (fun x T' S' => match x with | .n => itN (run pol (planOf pol) P n) nt b k T' S' | _ => none) r
      | _ => none) = some (T1, S1) := h
    rw [ob_some] at h
    obtain ⟨rs, h1, h⟩ := h
    split at h
    · rename_i r1
      obtain ⟨x, T2, S2⟩ := r1
      cases x with
      | n => exact HoL.step (Ho.of hmix hx hP h1) (HoL.its hmix hx hP h hl)
      | e i => cases h
      | r => cases h
    · cases h

/-! states that hold more -/
noncomputable def subVO : Option AV → Option AV → Bool
  | none, _ => true
  | some a, some b => same a b
  | some _, none => false
noncomputable def subV : Tr AV → Tr AV → Bool
  | .lf, _ => true
  | .nd l v r, .nd l' v' r' => subVO v v' && subV l l' && subV r r'
  | .nd l v r, .lf => v.isNone && subV l .lf && subV r .lf
theorem subV_get : ∀ {a t : Tr AV}, subV a t = true → ∀ (p : List Bool) (x : AV), a.getP p = some x → t.getP p = some x
  | .lf, _, _, p, x, h => by rw [Tr.getP_lf] at h; cases h
  | .nd l v r, .lf, h, p, x, hx => by
    simp only [subV, Bool.and_eq_true, Option.isNone_iff_eq_none] at h
    obtain ⟨⟨h1, h2⟩, h3⟩ := h
    cases p with
    | nil => have hv : v = some x := hx; rw [h1] at hv; cases hv
    | cons b p =>
      cases b
      · have := subV_get (a := r) h3 p x hx; rw [Tr.getP_lf] at this; cases this
      · have := subV_get (a := l) h2 p x hx; rw [Tr.getP_lf] at this; cases this
  | .nd l v r, .nd l' v' r', h, p, x, hx => by
    simp only [subV, Bool.and_eq_true] at h
    obtain ⟨⟨h1, h2⟩, h3⟩ := h
    cases p with
    | nil =>
      have hv : v = some x := hx
      subst hv
      show v' = some x
      cases v' with
      | none => simp [subVO] at h1
      | some b => rw [same_sames.1 x b h1]
    | cons b p =>
      cases b
      · exact subV_get (a := r) (t := r') h3 p x hx
      · exact subV_get (a := l) (t := l') h2 p x hx
/-- the second state holds all that the first holds -/
noncomputable def subS (T : Tm) (S : St) (T' : Tm) (S' : St) : Bool := subV T T' && (subT S.heap S'.heap && S.next.beq S'.next)
theorem Pre.weak {E : Gh} {nt m : Nat} {T T' : Tm} {S S' : St} {a : Act} {w : World} (h : subS T S T' S' = true) (p : Pre E nt T' S' m a w) : Pre E nt T S m a w := by
  simp only [subS, Bool.and_eq_true, nbeq_iff] at h
  obtain ⟨h1, h2, h3⟩ := h
  exact ⟨⟨p.tr.1, fun t x hx => p.tr.2 t x (subV_get h1 _ _ hx)⟩, p.hr.weaken fun n b hb => subT_get h2 _ _ hb, p.pr, fun n k1 k2 => p.fresh n (by rw [← h3]; exact k1) k2, p.df⟩
theorem Tran.wide {E E' : Gh} {h h1 h' : Nat → Option AB} {w w' : World} {x y : Nat} (t : Tran E h1 w x E' h' w' y) (hs : ∀ n b, h1 n = some b → h n = some b) : Tran E h w x E' h' w' y :=
  ⟨t.ext, t.le, t.dom, t.hr, t.pr, t.size, fun n b hb => (t.names n b hb).imp (fun ⟨c, hc⟩ => ⟨c, hs n c hc⟩) id, fun n b hb hl => let ⟨m, c, hc, e⟩ := t.own n b hb hl; ⟨m, c, hs m c hc, e⟩,
    fun b hb hn => t.frame b hb fun n c hc => hn n c (hs n c hc), fun b hb hn => t.prot b hb fun n c hc => hn n c (hs n c hc), t.env⟩
theorem Po.wide {E : Gh} {nt : Nat} {S S' : St} {T T' : Tm} {w : World} {r : R3} (h : subS T S T' S' = true) {e : Exit} {a' : Act} {w' : World} (p : Po E nt S w r e a' w') : Po E nt S' w r e a' w' := by
  simp only [subS, Bool.and_eq_true, nbeq_iff] at h
  obtain ⟨_, h2, h3⟩ := h
  obtain ⟨E', q1, q2, q3, tr⟩ := p
  rw [h3] at tr
  exact ⟨E', q1, q2, q3, tr.wide fun n b hb => subT_get h2 _ _ hb⟩
theorem HoL.weak {nt : Nat} {b : Code} {T T' : Tm} {S S' : St} {r : R3} (h : subS T S T' S' = true) (k : HoL P nt b T S r) : HoL P nt b T' S' r := by
  have h0 := h
  simp only [subS, Bool.and_eq_true, nbeq_iff] at h0
  obtain ⟨k1, n, k2⟩ := k
  exact ⟨by rw [← h0.2.2]; exact k1, n, fun E a w p => rounds_mono (fun e a w q => q.wide h) n a w (k2 E a w (p.weak h))⟩
theorem Ho.weak {nt : Nat} {b : Code} {T T' : Tm} {S S' : St} {r : R3} (h : subS T S T' S' = true) (k : Ho P nt b T S r) : Ho P nt b T' S' r := by
  have h0 := h
  simp only [subS, Bool.and_eq_true, nbeq_iff] at h0
  exact ⟨by rw [← h0.2.2]; exact k.1, fun E a w p => wp_mono (k.2 E a w (p.weak h)) fun e a w q => q.wide h⟩

/-- some rounds lead to a state that holds all of the noted one -/
noncomputable def leads (rec : RunT) (nt : Nat) (b : Code) (k : Nat) (T : Tm) (S : St) (T1 : Tm) (S1 : St) : Bool := match itN rec nt b k T S with
  | some q => subS T1 S1 q.1 q.2
  | none => false
theorem HoL.leads (hmix : P.follows .mixedOrders = true) (hx : MxOk P) (hP : NoNum P) {n nt k : Nat} {b : Code} {r : R3} {T T1 : Tm} {S S1 : St} (h : leads (run pol (planOf pol) P n) nt b k T S T1 S1 = true) (hl : HoL P nt b T1 S1 r) : HoL P nt b T S r := by
  unfold Eng.leads at h
  split at h
  · rename_i q hq
    obtain ⟨T', S'⟩ := q
    exact HoL.its hmix hx hP hq (hl.weak h)
  · cases h
/-- the loop ends in a state that holds all of the noted one -/
noncomputable def ends (rec : RunT) (nt : Nat) (c : Code) (T : Tm) (S : St) (r : R3) : Bool := match rec nt c T S with
  | some [q] => (match q.1, r.1 with | .n, .n => true | .e i, .e j => i.beq j | .r, .r => true | _, _ => false) && subS r.2.1 r.2.2 q.2.1 q.2.2
  | _ => false
theorem Tran.less {E E' : Gh} {h h1 h' : Nat → Option AB} {w w' : World} {x y : Nat} (t : Tran E h w x E' h1 w' y) (hs : ∀ n b, h' n = some b → h1 n = some b) : Tran E h w x E' h' w' y :=
  ⟨t.ext, t.le, t.dom, t.hr.weaken hs, t.pr, t.size, fun n b hb => t.names n b (hs n b hb), fun n b hb hl => t.own n b (hs n b hb) hl, t.frame, t.prot, t.env⟩
theorem Po.less {E : Gh} {nt : Nat} {S : St} {w : World} {q r : R3} (hx : q.1 = r.1) (h : subS r.2.1 r.2.2 q.2.1 q.2.2 = true) {e : Exit} {a' : Act} {w' : World} (p : Po E nt S w q e a' w') : Po E nt S w r e a' w' := by
  simp only [subS, Bool.and_eq_true, nbeq_iff] at h
  obtain ⟨h1, h2, h3⟩ := h
  obtain ⟨E', q1, q2, q3, tr⟩ := p
  rw [← h3] at tr
  exact ⟨E', by rw [← hx]; exact q1, ⟨q2.1, fun t x hx => q2.2 t x (subV_get h1 _ _ hx)⟩, q3, tr.less fun n b hb => subT_get h2 _ _ hb⟩
theorem ends_some {nt : Nat} {c : Code} {T : Tm} {S : St} {r : R3} (h : ends rec nt c T S r = true) : ∃ q, rec nt c T S = some [q] ∧ q.1 = r.1 ∧ subS r.2.1 r.2.2 q.2.1 q.2.2 = true := by
  unfold ends at h
  split at h
  · rename_i q hq
    rw [Bool.and_eq_true] at h
    refine ⟨q, hq, ?_, h.2⟩
    have h1 := h.1
    split at h1
    · rename_i e1 e2; rw [e1, e2]
    · rename_i i j e1 e2; rw [e1, e2, nbeq_iff.1 h1]
    · rename_i e1 e2; rw [e1, e2]
    · cases h1
  · cases h
theorem HoL.ends (hmix : P.follows .mixedOrders = true) (hx : MxOk P) (hP : NoNum P) {n nt : Nat} {b : Code} {r : R3} {T : Tm} {S : St} (h : ends (run pol (planOf pol) P n) nt (.loop b) T S r = true) : HoL P nt b T S r := by
  obtain ⟨q, hq, e1, e2⟩ := ends_some h
  obtain ⟨k1, m, k2⟩ := HoL.of hmix hx hP hq
  have h0 := e2
  simp only [subS, Bool.and_eq_true, nbeq_iff] at h0
  have hn : r.2.2.next = q.2.2.next := h0.2.2
  exact ⟨by rw [hn]; exact k1, m, fun E a w p => rounds_mono (fun e a w z => z.less e1 e2) m a w (k2 E a w (p.le (by rw [hn]; exact Nat.le_refl _)))⟩

/-! codes with marks -/
/-- the part of a code that a way leads to -/
noncomputable def codeAt : Code → List Nat → Code
  | c, [] => c
  | .seq a _, 0 :: p => codeAt a p
  | .seq _ b, _ :: p => codeAt b p
  | .block _ b, _ :: p => codeAt b p
  | .cond _ a _, 0 :: p => codeAt a p
  | .cond _ _ b, _ :: p => codeAt b p
  | .loop b, _ :: p => codeAt b p
  | _, _ :: _ => .ret
noncomputable def loopBody : Code → Code
  | .loop b => b
  | _ => .ret
abbrev Ways := List (List Nat × Nat)
/-- the ways on, in a direction: left or not -/
noncomputable def goL : Ways → Ways
  | [] => []
  | (0 :: p, l) :: r => (p, l) :: goL r
  | _ :: r => goL r
noncomputable def goR : Ways → Ways
  | [] => []
  | ((_ + 1) :: p, l) :: r => (p, l) :: goR r
  | _ :: r => goR r
noncomputable def goA : Ways → Ways
  | [] => []
  | (_ :: p, l) :: r => (p, l) :: goA r
  | _ :: r => goA r
noncomputable def here : Ways → Option Nat
  | [] => none
  | ([], l) :: _ => some l
  | _ :: r => here r
noncomputable def blkR (id : Nat) : R3 → R3 := on3 fun x T S => match x with
  | .e i => bif i.beq id then (.n, T, S) else (.e i, T, S)
  | x => (x, T, S)
noncomputable def one1 (x : Option (List R3)) : Option R3 := x.ob fun rs => match rs with
  | [r] => some r
  | _ => none
noncomputable def loopN (f : Tm → St → Option R3) (n : Nat) : Tm → St → Option R3 :=
  Nat.rec (motive := fun _ => Tm → St → Option R3) (fun _ _ => none) (fun _ ih T S => (f T S).ob fun r => on3 (fun x T' S' => match x with | .n => ih T' S' | x => some (x, T', S')) r) n
/-- the run of a code in which the marked parts are known -/
noncomputable def runP (rec : RunT) (lp : Nat → Tm → St → Option R3) (nt : Nat) (n : Nat) : Code → Ways → Tm → St → Option R3
  | .seq a b, ps, T, S => bif ps.isEmpty then one1 (rec nt (.seq a b) T S) else match here ps with
    | some l => lp l T S
    | none => (runP rec lp nt n a (goL ps) T S).ob fun r => on3 (fun x T' S' => match x with | .n => runP rec lp nt n b (goR ps) T' S' | x => some (x, T', S')) r
  | .block id b, ps, T, S => bif ps.isEmpty then one1 (rec nt (.block id b) T S) else match here ps with
    | some l => lp l T S
    | none => (runP rec lp nt n b (goA ps) T S).ob fun r => some (blkR id r)
  | .cond v a b, ps, T, S => bif ps.isEmpty then one1 (rec nt (.cond v a b) T S) else match here ps with
    | some l => lp l T S
    | none => (ev T v).ob fun u => match u with
        | .bool true => runP rec lp nt n a (goL ps) T S
        | .bool false => runP rec lp nt n b (goR ps) T S
        | _ => none
  | .loop b, ps, T, S => bif ps.isEmpty then one1 (rec nt (.loop b) T S) else match here ps with
    | some l => lp l T S
    | none => loopN (runP rec lp nt n b (goA ps)) n T S
  | c, ps, T, S => bif ps.isEmpty then one1 (rec nt c T S) else match here ps with
    | some l => lp l T S
    | none => one1 (rec nt c T S)

/-- what is known of the marked parts -/
def LpOk (P : Program) (nt : Nat) (lp : Nat → Tm → St → Option R3) (c : Code) (ps : Ways) : Prop := ∀ q ∈ ps, ∀ T S r, lp q.2 T S = some r → Ho P nt (codeAt c q.1) T S r
theorem here_some : ∀ {ps : Ways} {l : Nat}, here ps = some l → ([], l) ∈ ps
  | [], _, h => by cases h
  | ([], k) :: r, l, h => by cases h; simp
  | (_ :: _, k) :: r, l, h => List.mem_cons_of_mem _ (here_some (ps := r) h)
theorem LpOk.here {nt : Nat} {lp : Nat → Tm → St → Option R3} {c : Code} {ps : Ways} (h : LpOk P nt lp c ps) {l : Nat} (hl : here ps = some l) {T : Tm} {S : St} {r : R3} (hr : lp l T S = some r) : Ho P nt c T S r := by
  have := h _ (here_some hl) T S r hr
  cases c <;> exact this
theorem goL_mem : ∀ {ps : Ways} {q : List Nat × Nat}, q ∈ goL ps → (0 :: q.1, q.2) ∈ ps
  | [], _, h => by cases h
  | (0 :: p, l) :: r, q, h => by
    rcases List.mem_cons.1 h with rfl | h
    · simp
    · exact List.mem_cons_of_mem _ (goL_mem h)
  | ([], l) :: r, q, h => List.mem_cons_of_mem _ (goL_mem (ps := r) h)
  | ((_ + 1) :: p, l) :: r, q, h => List.mem_cons_of_mem _ (goL_mem (ps := r) h)
theorem goR_mem : ∀ {ps : Ways} {q : List Nat × Nat}, q ∈ goR ps → ∃ k, ((k + 1) :: q.1, q.2) ∈ ps
  | [], _, h => by cases h
  | ((k + 1) :: p, l) :: r, q, h => by
    rcases List.mem_cons.1 h with rfl | h
    · exact ⟨k, by simp⟩
    · obtain ⟨k, hk⟩ := goR_mem h; exact ⟨k, List.mem_cons_of_mem _ hk⟩
  | ([], l) :: r, q, h => by obtain ⟨k, hk⟩ := goR_mem (ps := r) h; exact ⟨k, List.mem_cons_of_mem _ hk⟩
  | (0 :: p, l) :: r, q, h => by obtain ⟨k, hk⟩ := goR_mem (ps := r) h; exact ⟨k, List.mem_cons_of_mem _ hk⟩
theorem goA_mem : ∀ {ps : Ways} {q : List Nat × Nat}, q ∈ goA ps → ∃ k, (k :: q.1, q.2) ∈ ps
  | [], _, h => by cases h
  | (k :: p, l) :: r, q, h => by
    rcases List.mem_cons.1 h with rfl | h
    · exact ⟨k, by simp⟩
    · obtain ⟨k, hk⟩ := goA_mem h; exact ⟨k, List.mem_cons_of_mem _ hk⟩
  | ([], l) :: r, q, h => by obtain ⟨k, hk⟩ := goA_mem (ps := r) h; exact ⟨k, List.mem_cons_of_mem _ hk⟩
theorem LpOk.seqL {nt : Nat} {lp : Nat → Tm → St → Option R3} {a b : Code} {ps : Ways} (h : LpOk P nt lp (.seq a b) ps) : LpOk P nt lp a (goL ps) := fun q hq T S r hr => by
  have := h _ (goL_mem hq) T S r hr; rwa [codeAt] at this
theorem LpOk.seqR {nt : Nat} {lp : Nat → Tm → St → Option R3} {a b : Code} {ps : Ways} (h : LpOk P nt lp (.seq a b) ps) : LpOk P nt lp b (goR ps) := fun q hq T S r hr => by
  obtain ⟨k, hk⟩ := goR_mem hq
  have := h _ hk T S r hr
  simpa only [codeAt] using this
theorem LpOk.condL {nt : Nat} {lp : Nat → Tm → St → Option R3} {v : Operand} {a b : Code} {ps : Ways} (h : LpOk P nt lp (.cond v a b) ps) : LpOk P nt lp a (goL ps) := fun q hq T S r hr => by
  have := h _ (goL_mem hq) T S r hr; rwa [codeAt] at this
theorem LpOk.condR {nt : Nat} {lp : Nat → Tm → St → Option R3} {v : Operand} {a b : Code} {ps : Ways} (h : LpOk P nt lp (.cond v a b) ps) : LpOk P nt lp b (goR ps) := fun q hq T S r hr => by
  obtain ⟨k, hk⟩ := goR_mem hq
  have := h _ hk T S r hr
  simpa only [codeAt] using this
theorem LpOk.block {nt : Nat} {lp : Nat → Tm → St → Option R3} {id : Nat} {b : Code} {ps : Ways} (h : LpOk P nt lp (.block id b) ps) : LpOk P nt lp b (goA ps) := fun q hq T S r hr => by
  obtain ⟨k, hk⟩ := goA_mem hq
  have := h _ hk T S r hr
  simpa only [codeAt] using this
theorem LpOk.loop {nt : Nat} {lp : Nat → Tm → St → Option R3} {b : Code} {ps : Ways} (h : LpOk P nt lp (.loop b) ps) : LpOk P nt lp b (goA ps) := fun q hq T S r hr => by
  obtain ⟨k, hk⟩ := goA_mem hq
  have := h _ hk T S r hr
  simpa only [codeAt] using this

theorem one1_some {x : Option (List R3)} {r : R3} (h : one1 x = some r) : x = some [r] := by
  unfold one1 at h
  rw [ob_some] at h
  obtain ⟨rs, hx, h⟩ := h
  split at h
  · cases h; exact hx
  · cases h

theorem Ho.seq {nt : Nat} {a b : Code} {T T1 : Tm} {S S1 : St} {r : R3} (h : Ho P nt a T S (.n, T1, S1)) (k : Ho P nt b T1 S1 r) : Ho P nt (.seq a b) T S r := by
  obtain ⟨h1, h2⟩ := h
  obtain ⟨k1, k2⟩ := k
  have h1 : S.next ≤ S1.next := h1
  refine ⟨Nat.le_trans h1 k1, fun E ac w p => wp_seq (wp_mono (h2 E ac w (p.le k1)) ?_)⟩
  rintro e a1 w1 ⟨E1, hxr, ht, hd, tr⟩
  simp only [XR] at hxr
  subst hxr
  show b.wp P _ a1 w1
  refine wp_mono (k2 E1 a1 w1 (p.next ht hd tr)) ?_
  rintro e a2 w2 ⟨E2, hx2, ht2, hd2, tr2⟩
  exact ⟨E2, hx2, ht2, hd2, tr.trans tr2⟩
theorem Ho.seqX {nt : Nat} {a b : Code} {T : Tm} {S : St} {r : R3} (h : Ho P nt a T S r) (hx : r.1 ≠ .n) : Ho P nt (.seq a b) T S r := by
  refine ⟨h.1, fun E ac w p => wp_seq (wp_mono (h.2 E ac w p) ?_)⟩
  rintro e a1 w1 ⟨E1, hxr, q⟩
  obtain ⟨x, T1, S1⟩ := r
  cases x with
  | n => exact absurd rfl hx
  | e i => simp only [XR] at hxr; subst hxr; exact ⟨E1, rfl, q⟩
  | r => simp only [XR] at hxr; subst hxr; exact ⟨E1, rfl, q⟩
theorem HoL.stepX {nt : Nat} {b : Code} {T : Tm} {S : St} {r : R3} (h : Ho P nt b T S r) (hx : r.1 ≠ .n) : HoL P nt b T S r := by
  refine ⟨h.1, 1, fun E ac w p => ?_⟩
  rw [rounds_succ]
  refine wp_mono (h.2 E ac w p) ?_
  rintro e a1 w1 ⟨E1, hxr, q⟩
  obtain ⟨x, T1, S1⟩ := r
  cases x with
  | n => exact absurd rfl hx
  | e i => simp only [XR] at hxr; subst hxr; exact ⟨E1, rfl, q⟩
  | r => simp only [XR] at hxr; subst hxr; exact ⟨E1, rfl, q⟩
theorem Ho.blk {nt id : Nat} {b : Code} {T : Tm} {S : St} {r : R3} (h : Ho P nt b T S r) : Ho P nt (.block id b) T S (blkR id r) := by
  obtain ⟨x, T1, S1⟩ := r
  have h1 := h.1
  have h2 := h.2
  have hn : (blkR id (x, T1, S1)).2.2.next = S1.next := by
    cases x with
    | n => rfl
    | r => rfl
    | e i => simp only [blkR, on3_eq]; cases i.beq id <;> rfl
  refine ⟨by rw [hn]; exact h1, fun E ac w p => wp_block (wp_mono (h2 E ac w (p.le (by rw [hn]; exact Nat.le_refl _))) ?_)⟩
  rintro e a1 w1 ⟨E1, hxr, ht, hd, tr⟩
  cases x with
  | n => simp only [XR] at hxr; subst hxr; exact ⟨E1, rfl, ht, hd, tr⟩
  | r => simp only [XR] at hxr; subst hxr; exact ⟨E1, rfl, ht, hd, tr⟩
  | e i =>
    simp only [XR] at hxr
    subst hxr
    by_cases e : i = id
    · subst e
      simp only [Exit.inBlock, if_true, blkR, on3_eq, Nat.beq_refl, cond_true]
      exact ⟨E1, rfl, ht, hd, tr⟩
    · simp only [Exit.inBlock, if_neg e, blkR, on3_eq, nbeq_false e, cond_false]
      exact ⟨E1, rfl, ht, hd, tr⟩

theorem loopN_ok {nt : Nat} {b : Code} {f : Tm → St → Option R3} (hf : ∀ T S r, f T S = some r → Ho P nt b T S r) : ∀ (n : Nat) {T : Tm} {S : St} {r : R3}, loopN f n T S = some r → HoL P nt b T S r
  | 0, _, _, _, h => by cases h
  | n + 1, T, S, r, h => by
    have h : ((f T S).ob fun r => on3 (fun x T' S' => match x with | .n => loopN f n T' S' | x => some (x, T', S')) r) = some r := h
    rw [ob_some] at h
    obtain ⟨⟨x, T1, S1⟩, h1, h⟩ := h
    have h1 := hf _ _ _ h1
    cases x with
    | n => exact HoL.step h1 (loopN_ok hf n h)
    | e i => cases h; exact HoL.stepX h1 (by simp)
    | r => cases h; exact HoL.stepX h1 (by simp)

theorem runP_ok (hmix : P.follows .mixedOrders = true) (hx : MxOk P) (hP : NoNum P) {n nt m : Nat} {lp : Nat → Tm → St → Option R3} : ∀ (c : Code) {ps : Ways} {T : Tm} {S : St} {r : R3}, LpOk P nt lp c ps →
    runP (run pol (planOf pol) P n) lp nt m c ps T S = some r → Ho P nt c T S r := by
  intro c
  induction c with
  | seq a b iha ihb =>
    intro ps T S r hl h
    rw [runP] at h
    cases he : ps.isEmpty <;> rw [he] at h
    rotate_left
    · exact Ho.of hmix hx hP (one1_some h)
    rw [cond_false] at h
    split at h
    · rename_i l hh; exact hl.here hh h
    · rw [ob_some] at h
      obtain ⟨⟨x, T1, S1⟩, h1, h⟩ := h
      have h1 := iha hl.seqL h1
      cases x with
      | n => exact h1.seq (ihb hl.seqR h)
      | e i => cases h; exact h1.seqX (by simp)
      | r => cases h; exact h1.seqX (by simp)
  | block id b ih =>
    intro ps T S r hl h
    rw [runP] at h
    cases he : ps.isEmpty <;> rw [he] at h
    rotate_left
    · exact Ho.of hmix hx hP (one1_some h)
    rw [cond_false] at h
    split at h
    · rename_i l hh; exact hl.here hh h
    · rw [ob_some] at h
      obtain ⟨r1, h1, h⟩ := h
      cases h
      exact (ih hl.block h1).blk
  | cond v a b iha ihb =>
    intro ps T S r hl h
    rw [runP] at h
    cases he : ps.isEmpty <;> rw [he] at h
    rotate_left
    · exact Ho.of hmix hx hP (one1_some h)
    rw [cond_false] at h
    split at h
    · rename_i l hh; exact hl.here hh h
    · rw [ob_some] at h
      obtain ⟨u, hu, h⟩ := h
      split at h
      · have h1 := iha hl.condL h
        refine ⟨h1.1, fun E ac w p => ?_⟩
        have hv := ev_rel p.tr p.pr hu
        simp only [VR] at hv
        exact wp_cond_true hv (h1.2 E ac w p)
      · have h1 := ihb hl.condR h
        refine ⟨h1.1, fun E ac w p => ?_⟩
        have hv := ev_rel p.tr p.pr hu
        simp only [VR] at hv
        exact wp_cond_false hv (h1.2 E ac w p)
      · cases h
  | loop b ih =>
    intro ps T S r hl h
    rw [runP] at h
    cases he : ps.isEmpty <;> rw [he] at h
    rotate_left
    · exact Ho.of hmix hx hP (one1_some h)
    rw [cond_false] at h
    split at h
    · rename_i l hh; exact hl.here hh h
    · exact (loopN_ok (fun T S r hr => ih hl.loop hr) m h).ho
  | _ =>
    intro ps T S r hl h
    simp only [runP] at h
    cases he : ps.isEmpty <;> rw [he] at h
    rotate_left
    · exact Ho.of hmix hx hP (one1_some h)
    rw [cond_false] at h
    split at h
    · rename_i l hh; exact hl.here hh h
    · exact Ho.of hmix hx hP (one1_some h)

/-! states that are written out -/
noncomputable def tmOf : List (Nat × AV) → Tm
  | [] => .lf
  | p :: l => (tmOf l).put p.1 p.2
noncomputable def heapOf : List (Nat × AB) → Tr AB
  | [] => .lf
  | p :: l => (heapOf l).put p.1 p.2
noncomputable def stOf (l : List (Nat × AB)) (n : Nat) : St := ⟨heapOf l, n⟩
abbrev LE1 := Nat × Tm × St × R3
noncomputable def lookL : List LE1 → Nat → Tm → St → Option R3
  | [], _, _, _ => none
  | e :: l, k, T, S => bif e.1.beq k && (e.2.2.1.next.beq S.next && subS e.2.1 e.2.2.1 T S) then some e.2.2.2 else lookL l k T S
theorem lookL_ok {nt : Nat} {c : Code} {ps : Ways} : ∀ {tab : List LE1}, (∀ e ∈ tab, ∀ q ∈ ps, q.2 = e.1 → Ho P nt (codeAt c q.1) e.2.1 e.2.2.1 e.2.2.2) → LpOk P nt (lookL tab) c ps
  | [], _, q, _, T, S, r, h => by cases h
  | e :: tab, hk, q, hq, T, S, r, h => by
    unfold lookL at h
    cases hb : (e.1.beq q.2 && (e.2.2.1.next.beq S.next && subS e.2.1 e.2.2.1 T S)) <;> rw [hb] at h
    · exact lookL_ok (fun d hd => hk d (List.mem_cons_of_mem _ hd)) q hq T S r h
    · rw [cond_true] at h
      cases h
      simp only [Bool.and_eq_true, nbeq_iff] at hb
      exact (hk e (by simp) q hq hb.1.symm).weak hb.2.2

theorem known_nilL {Q : LE1 → Prop} : ∀ e ∈ ([] : List LE1), Q e := fun _ h => by cases h
theorem known_consL {Q : LE1 → Prop} {e : LE1} {l : List LE1} (h : Q e) (hl : ∀ e ∈ l, Q e) : ∀ d ∈ e :: l, Q d := fun d hd => by
  rcases List.mem_cons.1 hd with rfl | hd
  · exact h
  · exact hl d hd
theorem known_nilW {Q : List Nat × Nat → Prop} : ∀ e ∈ ([] : Ways), Q e := fun _ h => by cases h
theorem known_consW {Q : List Nat × Nat → Prop} {e : List Nat × Nat} {l : Ways} (h : Q e) (hl : ∀ e ∈ l, Q e) : ∀ d ∈ e :: l, Q d := fun d hd => by
  rcases List.mem_cons.1 hd with rfl | hd
  · exact h
  · exact hl d hd

/-- what a pure call returns, by a run with marks -/
noncomputable def resP (P : Program) (fn : Func) (r : Option R3) : Option AV := r.ob fun r => on3 (fun x T' S' => (chk x.back).ob fun _ => (ressA P T' S' fn.results.toList).ob fun vs => (frz frzFuel S' (tupR vs)).o2 fun q _ => some q) r
theorem pure_of_Ho {f : FuncId} {fn : Func} {c : Code} {args : List AV} {r : R3} {q : AV} (hf : P.funcs[f]? = some fn) (hb : fn.body = some c) (hle : args.length ≤ fn.ntmps) (h : Ho P fn.ntmps c (argsT args 0) ⟨.lf, 0⟩ r) (hres : resP P fn (some r) = some q) : PureOk P f args q := by
  intro E w vs ha hl pr
  refine calls_of_wp hf hb ?_
  have ht : TR E.ice fn.ntmps (argsT args 0).get { tmps := vs ++ Array.replicate (fn.ntmps - vs.size) undef, defers := [] } := by
    refine ⟨by simp; omega, fun t y hy => ?_⟩
    rw [argsT_get] at hy
    simp only [Nat.zero_le, if_true, Nat.sub_zero] at hy
    obtain ⟨u, hu, hyu⟩ := ha.get hy
    refine ⟨u, ?_, hyu⟩
    have hlt : t < vs.size := by
      have := (List.getElem?_eq_some_iff.1 hu).1
      simpa using this
    rw [Array.getElem?_append_left hlt]
    simpa using hu
  refine wp_mono (h.2 E.ice _ w ⟨ht, HR.empty E.ice w, pr.ice, fun n _ _ d => d, rfl⟩) ?_
  rintro e a' w' ⟨E2, hxr, ht', hd, t2⟩
  obtain ⟨x, T', S2⟩ := r
  simp only [resP, o2_eq, on3_eq, ob_some, chk_some, Option.some.injEq] at hres
  obtain ⟨_, rfl, _, hbk, us, hus, ⟨q', S3⟩, h3, rfl⟩ := hres
  obtain ⟨v', hres, hv'⟩ := results_run (P := P) (fn := fn) ht' t2.hr t2.pr hus
  obtain ⟨E3, hv3, _, t3⟩ := frz_ok _ E2 S2 S3 w' (tupR us) q' v' h3 hv' t2.hr t2.pr
  have t := t2.trans2 t3 (Nat.zero_le _) (Nat.le_refl _)
  cases x with
  | n => simp only [XR] at hxr; subst hxr; exact ⟨hd, v', hres, v', E3, rfl, hv3, t.pr.ice, t.ext.prot, t.size, fun b hb => ⟨t.frame b hb (fun n c hc => by simp at hc), t.prot b hb (fun n c hc => by simp at hc)⟩, t.env⟩
  | e id => simp [X.back] at hbk
  | r => simp only [XR] at hxr; subst hxr; exact ⟨hd, v', hres, v', E3, rfl, hv3, t.pr.ice, t.ext.prot, t.size, fun b hb => ⟨t.frame b hb (fun n c hc => by simp at hc), t.prot b hb (fun n c hc => by simp at hc)⟩, t.env⟩
end

theorem known_marks [Gl] {mx : Mx} {P : Program} {pol : FuncId → Bool} {n m : Nat} {f : FuncId} {fn : Func} {c : Code} {args : List AV} {v : AV} {lp : Nat → Tm → St → Option R3} {ps : Ways} (hmix : P.follows .mixedOrders = true) (hx : @MxOk _ mx P) (hP : @NoNum P)
    (hf : P.funcs[f]? = some fn) (hb : fn.body = some c) (hle : Nat.ble args.length fn.ntmps = true) (hl : LpOk P fn.ntmps lp c ps)
    (h : isV v (resP P fn (@runP _ (@run _ mx pol (planOf pol) P n) lp fn.ntmps m c ps (argsT args 0) ⟨.lf, 0⟩)) = true) : Known P (f, args, v) := by
  refine ⟨⟨fn, hf, by rw [hb]; rfl⟩, ?_⟩
  have h := isV_eq h
  generalize hr : @runP _ (@run _ mx pol (planOf pol) P n) lp fn.ntmps m c ps (argsT args 0) ⟨.lf, 0⟩ = r at h
  cases r with
  | none => simp [resP, Option.ob] at h
  | some r => exact @pure_of_Ho _ mx _ _ _ _ _ _ _ hf hb (nble_iff.1 hle) (@runP_ok _ mx _ _ hmix hx hP _ _ _ _ _ _ _ _ _ hl hr) h
end Go.Eng
