/-
  What it means that an abstract state describes a world of the model.
-/
import Derived.Test.YtjkdpgkpghcfbaaGreatDoorEngRun
import Derived.Laws.Sem
set_option linter.unusedSimpArgs false
set_option linter.unusedVariables false
namespace Go.Eng
set_option linter.unusedSectionVars false
variable [Gl] [Mx]

/-- Ghosts: which names are in use, where each lies (block, shift, the block's number of cells), and what lies in the blocks that nobody writes any more. -/
structure Gh where
  dom : Nat → Prop
  blk : Nat → Nat
  sh : Nat → Nat
  bsz : Nat → Nat
  prot : Nat → Option (Array Value)

/-- the ghosts without names: what holds by them holds of memory that nobody writes any more -/
def Gh.ice (E : Gh) : Gh := { E with dom := fun _ => False }

mutual
def VR (E : Gh) : AV → Value → Prop
  | .bool b, v => v = .bool b
  | .int k n, v => v = .int k n
  | .str s, v => v = .string s
  | .nilp, v => v = .pointer none
  | .mp n off, v => E.dom n ∧ v = .pointer (some ⟨E.blk n, E.sh n + off, none⟩)
  | .pa n len z, v => E.dom n ∧ v = .pointer (some ⟨E.blk n, E.sh n, none⟩) ∧ E.sh n + len * z ≤ E.bsz n
  | .fp cs, v => ∃ b o, v = .pointer (some ⟨b, o, none⟩) ∧ ∃ arr, E.prot b = some arr ∧ VRP E.ice cs (arr.toList.drop o)
  | .nils, v => v = .slice none 0 0
  | .ms n off len cap z, v => E.dom n ∧ ∃ c, v = .slice (some ⟨E.blk n, E.sh n + off, none⟩) len c ∧ len ≤ c ∧ E.sh n + off + c * z ≤ E.bsz n ∧ (∀ k, cap = some k → c = k)
  | .fs cs len, v => (∃ b o sp c, v = .slice (some ⟨b, o, sp⟩) len c ∧ len ≤ c ∧ (cs = [] ∨ (sp = none ∧ ∃ arr, E.prot b = some arr ∧ VRP E.ice cs (arr.toList.drop o)))) ∨ (cs = [] ∧ len = 0 ∧ v = .slice none 0 0)
  | .nilm, v => v = .map none
  | .map n, v => E.dom n ∧ v = .map (some (E.blk n))
  | .nilf, v => v = .nilFunc
  | .func f a c, v => ∃ a' c', v = .func (.func f) a' c' ∧ (VRP E a a'.toList ∧ a.length = a'.size) ∧ (VRP E c c'.toList ∧ c.length = c'.size)
  | .nili, v => v = .nilIface
  | .iface t x, v => ∃ y, v = .iface t y ∧ VR E x y
  | .agg cs, v => ∃ a, v = .agg a ∧ VRP E cs a.toList ∧ cs.length = a.size
  | .tup cs, v => ∃ a, v = .tuple a ∧ VRP E cs a.toList ∧ cs.length = a.size
  | .adr b o, v => v = .pointer (some ⟨b, o, none⟩)
def VRP (E : Gh) : List AV → List Value → Prop
  | [], _ => True
  | _ :: _, [] => False
  | x :: xs, v :: vs => VR E x v ∧ VRP E xs vs
end

structure Ext (E E' : Gh) : Prop where
  dom : ∀ n, E.dom n → E'.dom n
  blk : ∀ n, E.dom n → E'.blk n = E.blk n
  sh : ∀ n, E.dom n → E'.sh n = E.sh n
  bsz : ∀ n, E.dom n → E'.bsz n = E.bsz n
  prot : ∀ b arr, E.prot b = some arr → E'.prot b = some arr

theorem Ext.refl (E : Gh) : Ext E E := ⟨fun _ h => h, fun _ _ => rfl, fun _ _ => rfl, fun _ _ => rfl, fun _ _ h => h⟩
theorem Ext.trans {E E' E'' : Gh} (h : Ext E E') (h' : Ext E' E'') : Ext E E'' :=
  ⟨fun n d => h'.dom n (h.dom n d), fun n d => (h'.blk n (h.dom n d)).trans (h.blk n d), fun n d => (h'.sh n (h.dom n d)).trans (h.sh n d),
    fun n d => (h'.bsz n (h.dom n d)).trans (h.bsz n d), fun b arr hp => h'.prot b arr (h.prot b arr hp)⟩

theorem Ext.ice {E E' : Gh} (h : Ext E E') : Ext E.ice E'.ice :=
  ⟨fun _ d => d.elim, fun _ d => d.elim, fun _ d => d.elim, fun _ d => d.elim, h.prot⟩
theorem Ext.ofIce (E : Gh) : Ext E.ice E := ⟨fun _ d => d.elim, fun _ d => d.elim, fun _ d => d.elim, fun _ d => d.elim, fun _ _ h => h⟩
/-- by ghosts without names only the frozen blocks count -/
theorem Ext.iceOf {E E' : Gh} (h : ∀ b arr, E.prot b = some arr → E'.prot b = some arr) : Ext E.ice E' :=
  ⟨fun _ d => d.elim, fun _ d => d.elim, fun _ d => d.elim, fun _ d => d.elim, h⟩

mutual
theorem VR.mono {E E' : Gh} (h : Ext E E') : ∀ (a : AV) (v : Value), VR E a v → VR E' a v
  | .bool _, _, hv => hv
  | .int _ _, _, hv => hv
  | .str _, _, hv => hv
  | .nilp, _, hv => hv
  | .mp n off, v, hv => by
    simp only [VR] at hv ⊢
    exact ⟨h.dom n hv.1, by rw [h.blk n hv.1, h.sh n hv.1]; exact hv.2⟩
  | .pa n len z, v, hv => by
    simp only [VR] at hv ⊢
    obtain ⟨d, e, hl⟩ := hv
    exact ⟨h.dom n d, by rw [h.blk n d, h.sh n d]; exact e, by rw [h.sh n d, h.bsz n d]; exact hl⟩
  | .fp cs, v, hv => by
    simp only [VR] at hv ⊢
    obtain ⟨b, o, e, arr, hp, hr⟩ := hv
    exact ⟨b, o, e, arr, h.prot b arr hp, VRP.mono h.ice cs _ hr⟩
  | .nils, _, hv => hv
  | .ms n off len cap z, v, hv => by
    simp only [VR] at hv ⊢
    obtain ⟨d, c, e, hl, hr, hc⟩ := hv
    exact ⟨h.dom n d, c, by rw [h.blk n d, h.sh n d]; exact e, hl, by rw [h.sh n d, h.bsz n d]; exact hr, hc⟩
  | .fs cs len, v, hv => by
    simp only [VR] at hv ⊢
    rcases hv with ⟨b, o, sp, c, e, hl, hr⟩ | hv
    · refine .inl ⟨b, o, sp, c, e, hl, ?_⟩
      rcases hr with hr | ⟨hs, arr, hp, hr⟩
      · exact .inl hr
      · exact .inr ⟨hs, arr, h.prot b arr hp, VRP.mono h.ice cs _ hr⟩
    · exact .inr hv
  | .nilm, _, hv => hv
  | .map n, v, hv => by
    simp only [VR] at hv ⊢
    exact ⟨h.dom n hv.1, by rw [h.blk n hv.1]; exact hv.2⟩
  | .nilf, _, hv => hv
  | .func f a c, v, hv => by
    simp only [VR] at hv ⊢
    obtain ⟨a', c', e, ⟨h1, h2⟩, h3, h4⟩ := hv
    exact ⟨a', c', e, ⟨VRP.mono h a _ h1, h2⟩, VRP.mono h c _ h3, h4⟩
  | .nili, _, hv => hv
  | .iface t x, v, hv => by
    simp only [VR] at hv ⊢
    obtain ⟨y, e, hy⟩ := hv
    exact ⟨y, e, VR.mono h x y hy⟩
  | .agg cs, v, hv => by
    simp only [VR] at hv ⊢
    obtain ⟨a, e, h1, h2⟩ := hv
    exact ⟨a, e, VRP.mono h cs _ h1, h2⟩
  | .adr _ _, _, hv => hv
  | .tup cs, v, hv => by
    simp only [VR] at hv ⊢
    obtain ⟨a, e, h1, h2⟩ := hv
    exact ⟨a, e, VRP.mono h cs _ h1, h2⟩
theorem VRP.mono {E E' : Gh} (h : Ext E E') : ∀ (a : List AV) (v : List Value), VRP E a v → VRP E' a v
  | [], _, _ => by simp only [VRP]
  | _ :: _, [], hv => by simp only [VRP] at hv
  | x :: xs, v :: vs, hv => by
    simp only [VRP] at hv ⊢
    exact ⟨VR.mono h x v hv.1, VRP.mono h xs vs hv.2⟩
end

/-! lists of values -/
theorem VRP.nil {E : Gh} {vs : List Value} : VRP E [] vs := by simp only [VRP]
theorem VRP.cons_iff {E : Gh} {x : AV} {xs : List AV} {v : Value} {vs : List Value} : VRP E (x :: xs) (v :: vs) ↔ VR E x v ∧ VRP E xs vs := by simp only [VRP]
theorem VRP.len {E : Gh} : ∀ {xs : List AV} {vs : List Value}, VRP E xs vs → xs.length ≤ vs.length
  | [], _, _ => Nat.zero_le _
  | _ :: _, [], h => by simp only [VRP] at h
  | _ :: xs, _ :: vs, h => by simp only [VRP] at h; exact Nat.succ_le_succ (VRP.len h.2)
theorem VRP.get {E : Gh} : ∀ {xs : List AV} {vs : List Value}, VRP E xs vs → ∀ {i : Nat} {x : AV}, xs[i]? = some x → ∃ v, vs[i]? = some v ∧ VR E x v
  | [], _, _, i, x, hi => by simp at hi
  | _ :: _, [], h, _, _, _ => by simp only [VRP] at h
  | y :: xs, v :: vs, h, 0, x, hi => by
    simp only [VRP] at h
    simp at hi; subst hi
    exact ⟨v, rfl, h.1⟩
  | y :: xs, v :: vs, h, i + 1, x, hi => by
    simp only [VRP] at h
    simp at hi
    obtain ⟨u, hu, hr⟩ := VRP.get h.2 hi
    exact ⟨u, by simpa using hu, hr⟩
theorem VRP.drop {E : Gh} : ∀ (n : Nat) {xs : List AV} {vs : List Value}, VRP E xs vs → VRP E (xs.drop n) (vs.drop n)
  | 0, _, _, h => h
  | _ + 1, [], _, _ => by simp only [List.drop_nil]; exact VRP.nil
  | _ + 1, _ :: _, [], h => by simp only [VRP] at h
  | n + 1, _ :: xs, _ :: vs, h => by simp only [VRP] at h; simpa using VRP.drop n h.2
theorem VRP.take {E : Gh} : ∀ (n : Nat) {xs : List AV} {vs : List Value}, VRP E xs vs → VRP E (xs.take n) vs
  | 0, _, _, _ => by simp only [List.take_zero]; exact VRP.nil
  | _ + 1, [], _, _ => by simp only [List.take_nil]; exact VRP.nil
  | _ + 1, _ :: _, [], h => by simp only [VRP] at h
  | n + 1, _ :: xs, _ :: vs, h => by simp only [VRP] at h; simp only [List.take_succ_cons, VRP]; exact ⟨h.1, VRP.take n h.2⟩
theorem VRP.takeR {E : Gh} : ∀ (n : Nat) {xs : List AV} {vs : List Value}, VRP E xs vs → xs.length ≤ n → VRP E xs (vs.take n)
  | _, [], _, _, _ => VRP.nil
  | _, _ :: _, [], h, _ => by simp only [VRP] at h
  | 0, _ :: _, _ :: _, _, hl => by simp at hl
  | n + 1, _ :: xs, _ :: vs, h, hl => by
    simp only [VRP] at h; simp only [List.take_succ_cons, VRP]; exact ⟨h.1, VRP.takeR n h.2 (by simpa using hl)⟩
theorem VRP.append {E : Gh} : ∀ {xs ys : List AV} {vs us : List Value}, VRP E xs vs → xs.length = vs.length → VRP E ys us → VRP E (xs ++ ys) (vs ++ us)
  | [], _, [], _, _, _, h => h
  | [], _, _ :: _, _, _, hl, _ => by simp at hl
  | _ :: _, _, [], _, h, _, _ => by simp only [VRP] at h
  | _ :: xs, ys, _ :: vs, us, h, hl, h' => by
    simp only [VRP] at h; simp only [List.cons_append, VRP]; exact ⟨h.1, VRP.append h.2 (by simpa using hl) h'⟩
theorem VRP.more {E : Gh} : ∀ {xs : List AV} {vs us : List Value}, VRP E xs vs → VRP E xs (vs ++ us)
  | [], _, _, _ => VRP.nil
  | _ :: _, [], _, h => by simp only [VRP] at h
  | _ :: xs, _ :: vs, us, h => by simp only [VRP] at h; simp only [List.cons_append, VRP]; exact ⟨h.1, VRP.more h.2⟩
theorem VRP.left {E : Gh} : ∀ {xs ys : List AV} {vs : List Value}, VRP E (xs ++ ys) vs → VRP E xs vs
  | [], _, _, _ => VRP.nil
  | _ :: _, _, [], h => by simp only [List.cons_append, VRP] at h
  | _ :: xs, ys, _ :: vs, h => by simp only [List.cons_append, VRP] at h ⊢; exact ⟨h.1, VRP.left h.2⟩

/-! constants -/
theorem cv1_rel (E : Gh) {v : Value} {x : AV} (h : cv1 v = some x) : VR E x v := by
  unfold cv1 at h
  split at h <;> first | (cases h; simp only [VR]) | cases h

theorem cvs_rel (E : Gh) : ∀ {vs : List Value} {xs : List AV}, cvs vs = some xs → VRP E xs vs ∧ xs.length = vs.length
  | [], xs, h => by simp only [cvs, Option.some.injEq] at h; subst h; exact ⟨VRP.nil, rfl⟩
  | v :: vs, xs, h => by
    simp only [cvs, o2_eq, on3_eq, ob_some, Option.some.injEq] at h
    obtain ⟨x, hx, ys, hy, rfl⟩ := h
    have := cvs_rel E hy
    exact ⟨VRP.cons_iff.2 ⟨cv1_rel E hx, this.1⟩, by simp [this.2]⟩

theorem cv_rel (E : Gh) {v : Value} {x : AV} (h : cv v = some x) : VR E x v := by
  unfold cv at h
  split at h
  · simp only [o2_eq, on3_eq, ob_some, Option.some.injEq] at h
    obtain ⟨xs, hx, rfl⟩ := h
    have := cvs_rel E hx
    simp only [VR]
    exact ⟨_, rfl, this.1, by simpa using this.2⟩
  · exact cv1_rel E h

theorem VR.cells {E : Gh} {x : AV} {v : Value} (h : VR E x v) : VRP E x.cells v.cells.toList ∧ x.cells.length = v.cells.size := by
  cases x with
  | agg cs => simp only [VR] at h; obtain ⟨a, rfl, h1, h2⟩ := h; exact ⟨h1, h2⟩
  | _ =>
    have hv : v.cells = #[v] := by
      cases v <;> first | rfl | (simp only [VR] at h; simp at h)
    rw [hv]
    exact ⟨VRP.cons_iff.2 ⟨h, VRP.nil⟩, rfl⟩

theorem VR.one {E : Gh} {x : AV} {v : Value} (h : VR E x v) (ho : x.one = true) : v.oneCell' = true := by
  cases x <;> simp only [AV.one, Bool.false_eq_true] at ho <;> simp only [VR] at h <;> cases v <;> first | rfl | simp at h

/-! slots -/
def TR (E : Gh) (nt : Nat) (T : Nat → Option AV) (a : Act) : Prop :=
  a.tmps.size = nt ∧ ∀ t x, T t = some x → ∃ v, a.tmps[t]? = some v ∧ VR E x v

theorem TR.mono {E E' : Gh} (h : Ext E E') {nt : Nat} {T : Nat → Option AV} {a : Act} (ht : TR E nt T a) : TR E' nt T a :=
  ⟨ht.1, fun t x hx => let ⟨v, hv, hr⟩ := ht.2 t x hx; ⟨v, hv, VR.mono h x v hr⟩⟩

/-! memory -/
def MR (E : Gh) : List ME → List MapEntry → Prop
  | [], [] => True
  | e :: es, f :: fs => VR E e.key f.key ∧ VR E e.val f.val ∧ e.born = f.born ∧ MR E es fs
  | _, _ => False

def BR (E : Gh) (n : Nat) : AB → Obj → Prop
  | .cells cs, o => ∃ arr el fz, o = .cells arr el fz ∧ E.bsz n = arr.size ∧ (∀ i, i < arr.size → (decide (fz.1 ≤ i) && decide (i < fz.2)) = false) ∧ VRP E cs (arr.toList.drop (E.sh n))
  | .map es c, o => ∃ arr, o = .map arr c ∧ MR E es arr.toList
  | .ice cs, o => ∃ arr el fz, o = .cells arr el fz ∧ E.bsz n = arr.size ∧ E.prot (E.blk n) = some arr ∧ VRP E cs (arr.toList.drop (E.sh n))
  | .tcells t cs, o => ∃ arr fz, o = .cells arr t fz ∧ E.sh n = 0 ∧ E.bsz n = arr.size ∧ (∀ i, i < arr.size → (decide (fz.1 ≤ i) && decide (i < fz.2)) = false) ∧ VRP E cs (arr.toList.drop (E.sh n))
  | .iter m since seen last, o => (∀ k, m = some k → E.dom k) ∧ E.sh n = 0 ∧ o = .mapIter (m.map E.blk) since seen.toArray last

theorem MR.mono {E E' : Gh} (h : Ext E E') : ∀ {es : List ME} {fs : List MapEntry}, MR E es fs → MR E' es fs
  | [], [], _ => by simp only [MR]
  | [], _ :: _, hm => by simp only [MR] at hm
  | _ :: _, [], hm => by simp only [MR] at hm
  | e :: es, f :: fs, hm => by
    simp only [MR] at hm ⊢
    exact ⟨VR.mono h _ _ hm.1, VR.mono h _ _ hm.2.1, hm.2.2.1, MR.mono h hm.2.2.2⟩

theorem BR.mono {E E' : Gh} (h : Ext E E') {n : Nat} (d : E.dom n) {b : AB} {o : Obj} (hb : BR E n b o) : BR E' n b o := by
  cases b with
  | cells cs =>
    simp only [BR] at hb ⊢
    obtain ⟨arr, el, fz, e, hs, hf, hr⟩ := hb
    exact ⟨arr, el, fz, e, by rw [h.bsz n d]; exact hs, hf, by rw [h.sh n d]; exact VRP.mono h _ _ hr⟩
  | tcells t cs =>
    simp only [BR] at hb ⊢
    obtain ⟨arr, fz, e, h0, hs, hf, hr⟩ := hb
    exact ⟨arr, fz, e, by rw [h.sh n d]; exact h0, by rw [h.bsz n d]; exact hs, hf, by rw [h.sh n d]; exact VRP.mono h _ _ hr⟩
  | map es c =>
    simp only [BR] at hb ⊢
    obtain ⟨arr, e, hm⟩ := hb
    exact ⟨arr, e, MR.mono h hm⟩
  | ice cs =>
    simp only [BR] at hb ⊢
    obtain ⟨arr, el, fz, e, hs, hf, hr⟩ := hb
    exact ⟨arr, el, fz, e, by rw [h.bsz n d]; exact hs, by rw [h.blk n d]; exact h.prot _ _ hf, by rw [h.sh n d]; exact VRP.mono h _ _ hr⟩
  | iter m since seen last =>
    simp only [BR] at hb ⊢
    obtain ⟨h1, h2, h3⟩ := hb
    refine ⟨fun k hk => h.dom k (h1 k hk), by rw [h.sh n d]; exact h2, ?_⟩
    rw [h3]
    cases m with
    | none => rfl
    | some k => simp [h.blk k (h1 k rfl)]

theorem BR.untype {E : Gh} {n : Nat} {t : TypeId} {cs : List AV} {o : Obj} (h : BR E n (.tcells t cs) o) : BR E n (.cells cs) o := by
  simp only [BR] at h ⊢
  obtain ⟨arr, fz, e, _, hs, hf, hr⟩ := h
  exact ⟨arr, t, fz, e, hs, hf, hr⟩
theorem BR.ofRow {E : Gh} {n : Nat} {b : Bool} {t : TypeId} {cs : List AV} {arr : Array Value} {fz : Nat × Nat} (h0 : E.sh n = 0) (hs : E.bsz n = arr.size) (hf : ∀ i, i < arr.size → (decide (fz.1 ≤ i) && decide (i < fz.2)) = false) (hr : VRP E cs (arr.toList.drop (E.sh n))) :
    BR E n (rowB b t cs) (.cells arr t fz) := by
  cases b
  · exact ⟨arr, t, fz, rfl, hs, hf, hr⟩
  · exact ⟨arr, fz, rfl, h0, hs, hf, hr⟩

structure HR (E : Gh) (h : Nat → Option AB) (w : World) : Prop where
  blk : ∀ n b, h n = some b → E.dom n ∧ ∃ o, w.heap[E.blk n]? = some o ∧ BR E n b o
  free : ∀ n b, h n = some b → b.mut = true → E.prot (E.blk n) = none
  inj : ∀ n m b c, h n = some b → h m = some c → E.blk n = E.blk m → n = m

structure PR (E : Gh) (w : World) : Prop where
  blk : ∀ b arr, E.prot b = some arr → ∃ el fz, w.heap[b]? = some (.cells arr el fz)
  gl : ∀ g v, Gl.g g = some v → VR E.ice v (.pointer (some ⟨g, 0, none⟩))

theorem HR.weaken {E : Gh} {h h' : Nat → Option AB} {w : World} (hr : HR E h w) (hs : ∀ n b, h' n = some b → h n = some b) : HR E h' w :=
  ⟨fun n b hb => hr.blk n b (hs n b hb), fun n b hb => hr.free n b (hs n b hb), fun n m b c hb hc => hr.inj n m b c (hs n b hb) (hs m c hc)⟩

/-- the streams and the tape are as they were -/
structure Env (w w' : World) : Prop where
  os : w'.os = w.os
  tape : w'.tape = w.tape
  output : w'.output = w.output

theorem Env.refl (w : World) : Env w w := ⟨rfl, rfl, rfl⟩
theorem Env.trans {a b c : World} (h : Env a b) (k : Env b c) : Env a c := ⟨k.os.trans h.os, k.tape.trans h.tape, k.output.trans h.output⟩

/-- one step of the machine, seen abstractly: from (E, h, w) to (E', h', w'), making names from x to y. -/
structure Tran (E : Gh) (h : Nat → Option AB) (w : World) (x : Nat) (E' : Gh) (h' : Nat → Option AB) (w' : World) (y : Nat) : Prop where
  ext : Ext E E'
  le : x ≤ y
  dom : ∀ n, E'.dom n → E.dom n ∨ (x ≤ n ∧ n < y)
  hr : HR E' h' w'
  pr : PR E' w'
  size : w.heap.size ≤ w'.heap.size
  names : ∀ n b, h' n = some b → (∃ c, h n = some c) ∨ (x ≤ n ∧ n < y)
  own : ∀ n b, h' n = some b → E'.blk n < w.heap.size → ∃ m c, h m = some c ∧ E.blk m = E'.blk n
  frame : ∀ b, b < w.heap.size → (∀ n c, h n = some c → E.blk n ≠ b) → w'.heap[b]? = w.heap[b]?
  prot : ∀ b, b < w.heap.size → (∀ n c, h n = some c → E.blk n ≠ b) → E'.prot b = E.prot b
  env : Env w w'

theorem Tran.refl {E : Gh} {h : Nat → Option AB} {w : World} (x : Nat) (hr : HR E h w) (pr : PR E w) : Tran E h w x E h w x :=
  ⟨Ext.refl E, Nat.le_refl x, fun _ d => .inl d, hr, pr, Nat.le_refl _, fun _ b hb => .inl ⟨b, hb⟩, fun n b hb _ => ⟨n, b, hb, rfl⟩, fun _ _ _ => rfl, fun _ _ _ => rfl, Env.refl w⟩

theorem Tran.trans {E E1 E2 : Gh} {h h1 h2 : Nat → Option AB} {w w1 w2 : World} {x y z : Nat} (a : Tran E h w x E1 h1 w1 y) (b : Tran E1 h1 w1 y E2 h2 w2 z) :
    Tran E h w x E2 h2 w2 z := by
  have key : ∀ k, k < w.heap.size → (∀ n c, h n = some c → E.blk n ≠ k) → ∀ n c, h1 n = some c → E1.blk n ≠ k := by
    intro k hk hn n c hc e
    obtain ⟨m, c', hm, hb⟩ := a.own n c hc (by omega)
    exact hn m c' hm (hb.trans e)
  refine ⟨a.ext.trans b.ext, Nat.le_trans a.le b.le, ?_, b.hr, b.pr, Nat.le_trans a.size b.size, ?_, ?_, ?_, ?_, a.env.trans b.env⟩
  · intro n d
    rcases b.dom n d with d | ⟨d, e⟩
    · rcases a.dom n d with d | ⟨d, e⟩
      · exact .inl d
      · exact .inr ⟨d, Nat.lt_of_lt_of_le e b.le⟩
    · exact .inr ⟨Nat.le_trans a.le d, e⟩
  · intro n c hc
    rcases b.names n c hc with ⟨c', hc'⟩ | ⟨d, e⟩
    · rcases a.names n c' hc' with r | ⟨d, e⟩
      · exact .inl r
      · exact .inr ⟨d, Nat.lt_of_lt_of_le e b.le⟩
    · exact .inr ⟨Nat.le_trans a.le d, e⟩
  · intro n c hc hlt
    obtain ⟨m, c', hm, e⟩ := b.own n c hc (Nat.lt_of_lt_of_le hlt a.size)
    obtain ⟨m', c'', hm', e'⟩ := a.own m c' hm (by omega)
    exact ⟨m', c'', hm', e'.trans e⟩
  · intro k hk hn
    rw [b.frame k (Nat.lt_of_lt_of_le hk a.size) (key k hk hn), a.frame k hk hn]
  · intro k hk hn
    rw [b.prot k (Nat.lt_of_lt_of_le hk a.size) (key k hk hn), a.prot k hk hn]

theorem Tran.trans2 {E E1 E2 : Gh} {h h1 h2 : Nat → Option AB} {w w1 w2 : World} {x y x' y' : Nat} (a : Tran E h w x E1 h1 w1 y) (b : Tran E1 h1 w1 x' E2 h2 w2 y') (hx : x ≤ x') (hy : y ≤ y') :
    Tran E h w x E2 h2 w2 y' := by
  have key : ∀ k, k < w.heap.size → (∀ n c, h n = some c → E.blk n ≠ k) → ∀ n c, h1 n = some c → E1.blk n ≠ k := by
    intro k hk hn n c hc e
    obtain ⟨m, c', hm, hb⟩ := a.own n c hc (by omega)
    exact hn m c' hm (hb.trans e)
  have hle := a.le
  refine ⟨a.ext.trans b.ext, by omega, ?_, b.hr, b.pr, Nat.le_trans a.size b.size, ?_, ?_, ?_, ?_, a.env.trans b.env⟩
  · intro n d
    rcases b.dom n d with d | ⟨d, e⟩
    · rcases a.dom n d with d | ⟨d, e⟩
      · exact .inl d
      · exact .inr ⟨d, by omega⟩
    · exact .inr ⟨by omega, e⟩
  · intro n c hc
    rcases b.names n c hc with ⟨c', hc'⟩ | ⟨d, e⟩
    · rcases a.names n c' hc' with r | ⟨d, e⟩
      · exact .inl r
      · exact .inr ⟨d, by omega⟩
    · exact .inr ⟨by omega, e⟩
  · intro n c hc hlt
    obtain ⟨m, c', hm, e⟩ := b.own n c hc (Nat.lt_of_lt_of_le hlt a.size)
    obtain ⟨m', c'', hm', e'⟩ := a.own m c' hm (by omega)
    exact ⟨m', c'', hm', e'.trans e⟩
  · intro k hk hn
    rw [b.frame k (Nat.lt_of_lt_of_le hk a.size) (key k hk hn), a.frame k hk hn]
  · intro k hk hn
    rw [b.prot k (Nat.lt_of_lt_of_le hk a.size) (key k hk hn), a.prot k hk hn]

/-- what a step on part of the memory does to the whole -/
def merge (h R R' : Nat → Option AB) : Nat → Option AB := fun n => if (R n).isSome || (R' n).isSome then R' n else h n

theorem Tran.frameRule {E E' : Gh} {h R R' : Nat → Option AB} {w w' : World} {x y : Nat} (t : Tran E R w x E' R' w' y) (hh : HR E h w)
    (sub : ∀ n b, R n = some b → h n = some b) : Tran E h w x E' (merge h R R') w' y := by
  have size_lt : ∀ n b, h n = some b → E.blk n < w.heap.size := by
    intro n b hb
    obtain ⟨_, o, ho, _⟩ := hh.blk n b hb
    exact (Array.getElem?_eq_some_iff.1 ho).1
  have rest : ∀ n b, R n = none → h n = some b → ∀ m c, R m = some c → E.blk m ≠ E.blk n := by
    intro n b hn hb m c hc e
    have := hh.inj m n c b (sub m c hc) hb e
    subst this
    rw [hn] at hc; cases hc
  have cases' : ∀ n b, merge h R R' n = some b → R' n = some b ∨ (R n = none ∧ R' n = none ∧ h n = some b) := by
    intro n b hb
    unfold merge at hb
    split at hb
    · exact .inl hb
    · rename_i hc
      simp only [Bool.or_eq_true, not_or, Bool.not_eq_true, Option.isSome_eq_false_iff, Option.isNone_iff_eq_none] at hc
      exact .inr ⟨hc.1, hc.2, hb⟩
  have blkR : ∀ n b, R n = none → h n = some b → E'.blk n = E.blk n := fun n b _ hb => t.ext.blk n (hh.blk n b hb).1
  refine ⟨t.ext, t.le, t.dom, ⟨?_, ?_, ?_⟩, t.pr, t.size, ?_, ?_, ?_, ?_, t.env⟩
  · intro n b hb
    rcases cases' n b hb with hb | ⟨h1, _, hb⟩
    · exact t.hr.blk n b hb
    · obtain ⟨d, o, ho, hr⟩ := hh.blk n b hb
      refine ⟨t.ext.dom n d, o, ?_, hr.mono t.ext d⟩
      rw [t.ext.blk n d, t.frame _ (size_lt n b hb) (rest n b h1 hb), ho]
  · intro n b hb
    intro hmut
    rcases cases' n b hb with hb | ⟨h1, _, hb⟩
    · exact t.hr.free n b hb hmut
    · obtain ⟨d, _⟩ := hh.blk n b hb
      rw [t.ext.blk n d, t.prot _ (size_lt n b hb) (rest n b h1 hb)]
      exact hh.free n b hb hmut
  · have mixed : ∀ n m b c, R' n = some b → R m = none → h m = some c → E'.blk n = E'.blk m → False := by
      intro n m b c hb h1 hc e
      rw [blkR m c h1 hc] at e
      obtain ⟨k, c', hk, e'⟩ := t.own n b hb (by rw [e]; exact size_lt m c hc)
      exact rest m c h1 hc k c' hk (e'.trans e)
    intro n m b c hb hc e
    rcases cases' n b hb with hb | ⟨h1, _, hb⟩ <;> rcases cases' m c hc with hc | ⟨h2, _, hc⟩
    · exact t.hr.inj n m b c hb hc e
    · exact (mixed n m b c hb h2 hc e).elim
    · exact (mixed m n c b hc h1 hb e.symm).elim
    · exact hh.inj n m b c hb hc (by rw [← blkR n b h1 hb, ← blkR m c h2 hc]; exact e)
  · intro n b hb
    rcases cases' n b hb with hb | ⟨_, _, hb⟩
    · rcases t.names n b hb with ⟨c, hc⟩ | r
      · exact .inl ⟨c, sub n c hc⟩
      · exact .inr r
    · exact .inl ⟨b, hb⟩
  · intro n b hb hlt
    rcases cases' n b hb with hb | ⟨h1, _, hb⟩
    · obtain ⟨m, c, hm, e⟩ := t.own n b hb hlt
      exact ⟨m, c, sub m c hm, e⟩
    · exact ⟨n, b, hb, (blkR n b h1 hb).symm⟩
  · intro k hk hn
    exact t.frame k hk fun n c hc => hn n c (sub n c hc)
  · intro k hk hn
    exact t.prot k hk fun n c hc => hn n c (sub n c hc)

/-- forgetting some of what is known behind a step -/
theorem Tran.forget {E E' : Gh} {h h' h'' : Nat → Option AB} {w w' : World} {x y : Nat} (t : Tran E h w x E' h' w' y) (hs : ∀ n b, h'' n = some b → h' n = some b) :
    Tran E h w x E' h'' w' y :=
  ⟨t.ext, t.le, t.dom, t.hr.weaken hs, t.pr, t.size, fun n b hb => t.names n b (hs n b hb), fun n b hb => t.own n b (hs n b hb), t.frame, t.prot, t.env⟩

end Go.Eng
