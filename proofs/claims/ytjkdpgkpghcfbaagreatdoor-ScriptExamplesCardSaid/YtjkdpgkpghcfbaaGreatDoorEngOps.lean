/-
  Each operation of the engine describes the model's.
-/
import Derived.Test.YtjkdpgkpghcfbaaGreatDoorEngMem
import GoSem.Dispatch
set_option linter.unusedSimpArgs false
set_option linter.unusedVariables false
namespace Go.Eng
set_option linter.unusedSectionVars false
variable [Gl] [Mx]

/-! tables -/
section
variable {P : Program} {t : TypeId} {e : TE}

theorem te_some (h : te P t = some e) : ∃ i, P.info? t = some i ∧ P.underlying t = some e.und ∧ i.size = e.size ∧ i.bytes = e.bytes ∧ ∃ z, i.zero = some z ∧ cv z = some e.zero := by
  simp only [te, o2_eq, on3_eq, ob_some, Option.some.injEq] at h
  obtain ⟨i, hi, d, hd, z, hz, zv, hzv, rfl⟩ := h
  exact ⟨i, hi, hd, rfl, rfl, z, hz, hzv⟩

theorem r_und (h : te P t = some e) (w : World) : (underlying t).run P w = .ok e.und w := by
  obtain ⟨i, hi, hd, _⟩ := te_some h
  simp [underlying, hd]

theorem r_info (h : te P t = some e) : ∃ i, (∀ w, (typeInfo t).run P w = .ok i w) ∧ i.size = e.size ∧ i.bytes = e.bytes := by
  obtain ⟨i, hi, hd, hs, hb, _⟩ := te_some h
  exact ⟨i, fun w => by simp [typeInfo, hi], hs, hb⟩

theorem r_size (h : te P t = some e) (w : World) : (sizeOf t).run P w = .ok e.size w := by
  obtain ⟨i, hi, hs, _⟩ := r_info h
  simp [sizeOf, hi, hs]

theorem r_zero (h : te P t = some e) : ∃ z, cv z = some e.zero ∧ ∀ w, (zeroValue t).run P w = .ok z w := by
  obtain ⟨i, hi, hd, hs, hb, z, hz, hzv⟩ := te_some h
  exact ⟨z, hzv, fun w => by simp [zeroValue, typeInfo, hi, hz]⟩

theorem r_isAgg (h : te P t = some e) (w : World) : (isAgg t).run P w = .ok (isAggD e.und) w := by
  simp only [isAgg, Sem.run_bind, r_und h, Result.andThen_ok]
  cases e.und <;> rfl
end

/-! what an operation does -/
def Does (P : Program) (s : Sem Next) (E : Gh) (S : St) (w : World) (v : AV) (S' : St) : Prop :=
  ∃ r v' w' E', s.run P w = .ok r w' ∧ (r = .value v' ∨ (r = .skip ∧ v' = undef)) ∧ VR E' v v' ∧ Tran E S.heap.get w S.next E' S'.heap.get w' S'.next

def DoesV (P : Program) (s : Sem Value) (E : Gh) (S : St) (w : World) (v : AV) (S' : St) : Prop :=
  ∃ v' w' E', s.run P w = .ok v' w' ∧ VR E' v v' ∧ Tran E S.heap.get w S.next E' S'.heap.get w' S'.next

theorem Does.ofV {P : Program} {s : Sem Value} {E : Gh} {S S' : St} {w : World} {v : AV} (h : DoesV P s E S w v S') :
    Does P (do pure (.value (← s))) E S w v S' := by
  obtain ⟨v', w', E', hr, hv, ht⟩ := h
  exact ⟨.value v', v', w', E', by simp [hr], .inl rfl, hv, ht⟩

section
variable {P : Program} {E : Gh} {S S' : St} {w : World}

theorem DoesV.same {s : Sem Value} {v : AV} {v' : Value} (hr : HR E S.heap.get w) (pr : PR E w) (hrun : s.run P w = .ok v' w) (hv : VR E v v') : DoesV P s E S w v S :=
  ⟨v', w, E, hrun, hv, Tran.refl _ hr pr⟩

/-- what a reading operation does: the world stays -/
def DoesR (P : Program) (s : Sem Value) (E : Gh) (w : World) (v : AV) : Prop := ∃ v', s.run P w = .ok v' w ∧ VR E v v'

theorem DoesR.of {s : Sem Value} {v : AV} {v' : Value} (hrun : s.run P w = .ok v' w) (hv : VR E v v') : DoesR P s E w v := ⟨v', hrun, hv⟩
theorem DoesR.toV {s : Sem Value} {v : AV} (h : DoesR P s E w v) (hr : HR E S.heap.get w) (pr : PR E w) : DoesV P s E S w v S := by
  obtain ⟨v', h1, h2⟩ := h
  exact DoesV.same hr pr h1 h2

theorem asN_rel {x : AV} {n : Nat} {v : Value} (h : asN x = some n) (hv : VR E x v) : ∃ k, v = .int k n := by
  unfold asN at h
  split at h
  · cases h
    simp only [VR] at hv
    exact ⟨_, hv⟩
  · cases h

/-! parts of cells -/
theorem partA_rel {e : TE} {cs : List AV} {off : Nat} {x : AV} {vs : List Value} (h : partA e cs off = some x) (hr : VRP E cs vs) :
    (isAggD e.und = true ∧ off + e.size ≤ max vs.length off ∧ VR E x (.agg ((vs.drop off).take e.size).toArray)) ∨ (isAggD e.und = false ∧ ∃ v, vs[off]? = some v ∧ VR E x v) := by
  unfold partA at h
  cases ha : isAggD e.und <;> rw [ha] at h
  · right
    rw [bc_false, nth_eq] at h
    obtain ⟨v, hv, hx⟩ := hr.get h
    exact ⟨rfl, v, hv, hx⟩
  · left
    rw [bc_true, ob_some] at h
    obtain ⟨r, hs, hx⟩ := h
    cases hx
    obtain ⟨rfl, hl, hle⟩ := sub_some hs
    have hlen := hr.len
    refine ⟨rfl, by omega, ?_⟩
    simp only [VR]
    refine ⟨_, rfl, ?_, ?_⟩
    · simp only
      exact VRP.takeR _ (VRP.take _ (VRP.drop _ hr)) (by omega)
    · rw [hl]; simp
      simp at hl
      omega

theorem cellsOf_some {n : Nat} {cs : List AV} (h : cellsOf S n = some cs) : ∃ b, S.heap.get n = some b ∧ b.mut = true ∧ (b = .cells cs ∨ ∃ t, b = .tcells t cs) := by
  unfold cellsOf at h
  rw [ob_some] at h
  obtain ⟨b, hb, h⟩ := h
  split at h
  · cases h; exact ⟨_, hb, rfl, .inl rfl⟩
  · cases h; exact ⟨_, hb, rfl, .inr ⟨_, rfl⟩⟩
  · cases h
theorem readOf_cells {n : Nat} {cs : List AV} (h : cellsOf S n = some cs) : readOf S n = some cs := by
  obtain ⟨b, hb, _, rfl | ⟨t, rfl⟩⟩ := cellsOf_some h <;> simp only [readOf, hb] <;> rfl

theorem entriesOf_some {n : Nat} {es : List ME} {c : Nat} (h : entriesOf S n = some (es, c)) : S.heap.get n = some (.map es c) := by
  unfold entriesOf at h
  rw [ob_some] at h
  obtain ⟨b, hb, h⟩ := h
  split at h
  · cases h; exact hb
  · cases h

/-- what lies behind a name -/
theorem HR.cells {n : Nat} {cs : List AV} (hr : HR E S.heap.get w) (h : cellsOf S n = some cs) :
    ∃ arr el fz, w.heap[E.blk n]? = some (.cells arr el fz) ∧ E.bsz n = arr.size ∧ (∀ i, i < arr.size → (decide (fz.1 ≤ i) && decide (i < fz.2)) = false) ∧ VRP E cs (arr.toList.drop (E.sh n)) := by
  obtain ⟨b, hg, _, hk⟩ := cellsOf_some h
  obtain ⟨_, o, ho, hb⟩ := hr.blk n _ hg
  have hb : BR E n (.cells cs) o := by
    rcases hk with rfl | ⟨t, rfl⟩
    · exact hb
    · exact hb.untype
  simp only [BR] at hb
  obtain ⟨arr, el, fz, rfl, hs, hf, hv⟩ := hb
  exact ⟨arr, el, fz, ho, hs, hf, hv⟩

theorem HR.reads {n : Nat} {cs : List AV} (hr : HR E S.heap.get w) (h : readOf S n = some cs) :
    ∃ arr el fz, w.heap[E.blk n]? = some (.cells arr el fz) ∧ E.bsz n = arr.size ∧ VRP E cs (arr.toList.drop (E.sh n)) := by
  unfold readOf at h
  rw [ob_some] at h
  obtain ⟨b, hb, h⟩ := h
  obtain ⟨_, o, ho, hbr⟩ := hr.blk n _ hb
  split at h
  · cases h
    simp only [BR] at hbr
    obtain ⟨arr, el, fz, rfl, hs, _, hv⟩ := hbr
    exact ⟨arr, el, fz, ho, hs, hv⟩
  · cases h
    simp only [BR] at hbr
    obtain ⟨arr, el, fz, rfl, hs, _, hv⟩ := hbr
    exact ⟨arr, el, fz, ho, hs, hv⟩
  · cases h
    have hbr := hbr.untype
    simp only [BR] at hbr
    obtain ⟨arr, el, fz, rfl, hs, _, hv⟩ := hbr
    exact ⟨arr, el, fz, ho, hs, hv⟩
  · cases h

theorem run_loadVar {t : TypeId} {e : TE} (he : te P t = some e) {b o : Nat} {arr : Array Value} {el : TypeId} {fz : Nat × Nat} (hw : w.heap[b]? = some (.cells arr el fz))
    {cs : List AV} {off : Nat} {x : AV} (h : partA e cs off = some x) (s : Nat) (hr : VRP E cs (arr.toList.drop s)) (ho : o = s + off) :
    ∃ v, (loadVar t ⟨b, o, none⟩).run P w = .ok v w ∧ VR E x v := by
  subst ho
  rcases partA_rel h hr with ⟨ha, hle, hx⟩ | ⟨ha, v, hv, hx⟩
  · refine ⟨_, ?_, hx⟩
    by_cases hz : e.size = 0
    · simp only [loadVar, Sem.run_bind, r_isAgg he, Result.andThen_ok, ha, if_true, r_size he, Sem.run_ite, hz]
      simp [loadCells, loadCellsFrom]
    · have : s + off + e.size ≤ arr.size := by simp at hle; omega
      simp only [loadVar, Sem.run_bind, r_isAgg he, Result.andThen_ok, ha, if_true, r_size he, Sem.run_ite, run_loadCells hw _ this]
      simp
  · refine ⟨v, ?_, hx⟩
    rw [List.getElem?_drop] at hv
    simp only [loadVar, Sem.run_bind, r_isAgg he, Result.andThen_ok, ha, Sem.run_ite, Bool.false_eq_true, if_false]
    exact run_load_at hw (by simpa using hv)

theorem load_run {t : TypeId} {e : TE} (he : te P t = some e) {p x : AV} {v : Value} (h : loadA e S p = some x) (hp : VR E p v) (hr : HR E S.heap.get w) (pr : PR E w) :
    ∃ a u, v = .pointer (some a) ∧ (loadVar t a).run P w = .ok u w ∧ VR E x u := by
  unfold loadA at h
  split at h
  · rename_i n off
    rw [ob_some] at h
    obtain ⟨cs, hc, h⟩ := h
    simp only [VR] at hp
    obtain ⟨_, rfl⟩ := hp
    obtain ⟨arr, el, fz, hw, _, hv⟩ := hr.reads hc
    obtain ⟨u, hu, hx⟩ := run_loadVar he hw h _ hv rfl
    exact ⟨_, u, rfl, hu, hx⟩
  · rename_i cs
    simp only [VR] at hp
    obtain ⟨b, o, rfl, arr, hprot, hv⟩ := hp
    obtain ⟨el, fz, hw⟩ := pr.blk b arr hprot
    obtain ⟨u, hu, hx⟩ := run_loadVar he hw h _ (VRP.mono (Ext.ofIce E) _ _ hv) rfl
    exact ⟨_, u, rfl, hu, hx⟩
  · cases h

theorem load_does {t : TypeId} {e : TE} (he : te P t = some e) {p x : AV} {v : Value} (h : loadA e S p = some x) (hp : VR E p v) (hr : HR E S.heap.get w) (pr : PR E w) :
    DoesR P (Instr.loadAt t v) E w x := by
  obtain ⟨a, u, rfl, hu, hx⟩ := load_run he h hp hr pr
  exact DoesR.of (by simp [Instr.loadAt, Instr.sureAddr, hu]) hx

theorem all_one {xs : List AV} {vs : List Value} (hr : VRP E xs vs) (hl : xs.length = vs.length) (h : xs.all AV.one = true) : ∀ v ∈ vs, v.oneCell' = true := by
  induction xs generalizing vs with
  | nil => cases vs with
    | nil => simp
    | cons _ _ => simp at hl
  | cons x xs ih => cases vs with
    | nil => simp at hl
    | cons v vs =>
      rw [VRP.cons_iff] at hr
      simp only [List.all_cons, Bool.and_eq_true] at h
      intro u hu
      rcases List.mem_cons.1 hu with rfl | hu
      · exact hr.1.one h.1
      · exact ih hr.2 (by simpa using hl) h.2 u hu

/-- cells laid over a block -/
theorem over_does {n off : Nat} {cs new r : List AV} {us : List Value} (hc : cellsOf S n = some cs) (ho : over cs off new = some r) (hu : VRP E new us) (hl : new.length = us.length)
    (hone : new.all AV.one = true) (hr : HR E S.heap.get w) (pr : PR E w) {h' : Nat → Option AB} (hh : ∀ m, h' m = if m = n then some (.cells r) else S.heap.get m) (x : Nat) :
    ∃ w', (storeCells ⟨E.blk n, E.sh n + off, none⟩ us).run P w = .ok () w' ∧ Tran E S.heap.get w x E h' w' x := by
  obtain ⟨arr, el, fz, hw, hs, hf, hv⟩ := hr.cells hc
  have hlen := over_len ho
  have hvl := hv.len
  by_cases hz : us = []
  · subst hz
    refine ⟨w, rfl, ?_⟩
    have hn : new = [] := by cases new with | nil => rfl | cons _ _ => simp at hl
    have : ∀ (cs : List AV) (off : Nat) (r : List AV), over cs off [] = some r → r = cs := by
      intro cs
      induction cs with
      | nil => intro off r h; cases off <;> simp [over, over0] at h; exact h
      | cons c cs ih =>
        intro off r h
        cases off with
        | zero => simp [over, over0] at h; exact h.symm
        | succ k => simp only [over, o2_eq, on3_eq, ob_some, Option.some.injEq] at h; obtain ⟨r', hr', rfl⟩ := h; rw [ih k r' hr']
    subst hn
    have e := this cs off r ho
    subst e
    obtain ⟨b, hb, hm, _⟩ := cellsOf_some hc
    have hheap : w.heap = w.heap.setIfInBounds (E.blk n) (.cells arr el fz) := by
      apply Array.ext_getElem?
      intro i
      rw [Array.getElem?_setIfInBounds]
      split
      · rename_i e
        subst e
        split
        · exact hw
        · rename_i hlt
          exact Array.getElem?_eq_none (by omega)
      · rfl
    refine Tran.set x hr pr hb hm hheap (Env.refl w) hh ?_
    simp only [BR]
    exact ⟨arr, el, fz, rfl, hs, hf, hv⟩
  · have hpos : 0 < us.length := List.length_pos_iff.2 hz
    have hroom : E.sh n + off + 0 + us.length ≤ arr.size := by simp at hvl; omega
    obtain ⟨w', hrun, hheap, henv⟩ := run_storeCells (P := P) (o := E.sh n + off) us 0 w arr hw hf (all_one hu hl hone) hroom
    obtain ⟨b, hb, hm, _⟩ := cellsOf_some hc
    refine ⟨w', hrun, Tran.set x hr pr hb hm hheap henv hh ?_⟩
    simp only [BR]
    refine ⟨_, el, fz, rfl, ?_, ?_, ?_⟩
    · rw [overArr_size _ _ _ (by omega)]; exact hs
    · rw [overArr_size _ _ _ (by omega)]; exact hf
    · have := over_rel ho hv hu hl
      have e : (overArr arr (E.sh n + off + 0) us).toList.drop (E.sh n) = (arr.toList.drop (E.sh n)).take off ++ us ++ (arr.toList.drop (E.sh n)).drop (off + us.length) := by
        unfold overArr
        simp only [Nat.add_zero, List.append_assoc]
        rw [List.drop_append_of_le_length (by simp; omega), List.drop_take]
        congr 1
        · congr 1; omega
        · rw [List.drop_drop]; congr 2; omega
      rw [e]; exact this

theorem store_does {t : TypeId} {e : TE} (he : te P t = some e) {p x : AV} {v u : Value} (h : storeA e S p x = some S') (hp : VR E p v) (hx : VR E x u) (hr : HR E S.heap.get w) (pr : PR E w) :
    ∃ w', (Instr.storeAt t v u).run P w = .ok () w' ∧ Tran E S.heap.get w S.next E S'.heap.get w' S'.next := by
  unfold storeA at h
  split at h
  · rename_i n off
    simp only [o2_eq, on3_eq, ob_some, chk_some, Option.some.injEq, Bool.and_eq_true] at h
    obtain ⟨cs, hc, _, ⟨hsz, hone⟩, r, ho, rfl⟩ := h
    simp only [VR] at hp
    obtain ⟨_, rfl⟩ := hp
    rw [nbeq_iff] at hsz
    obtain ⟨h1, h2⟩ := hx.cells
    obtain ⟨w', hrun, ht⟩ := over_does (P := P) (h' := (S.heap.put n (.cells r)).get) hc ho h1 (by simpa using h2) hone hr pr (fun m => by rw [Tr.get_put]) S.next
    refine ⟨w', ?_, ht⟩
    have hsize : u.cells.size = e.size := by omega
    simp [Instr.storeAt, Instr.sureAddr, storeVar, r_size he, hsize, hrun]
  · cases h

theorem storeVar_run {t : TypeId} {e : TE} (he : te P t = some e) {n off : Nat} {x : AV} {u : Value} (h : storeA e S (.mp n off) x = some S') (hx : VR E x u) (hr : HR E S.heap.get w) (pr : PR E w) :
    ∃ w', (storeVar t ⟨E.blk n, E.sh n + off, none⟩ u).run P w = .ok () w' ∧ Tran E S.heap.get w S.next E S'.heap.get w' S'.next := by
  unfold storeA at h
  simp only [o2_eq, on3_eq, ob_some, chk_some, Option.some.injEq, Bool.and_eq_true] at h
  obtain ⟨cs, hc, _, ⟨hsz, hone⟩, r, ho, rfl⟩ := h
  rw [nbeq_iff] at hsz
  obtain ⟨h1, h2⟩ := hx.cells
  obtain ⟨w', hrun, ht⟩ := over_does (P := P) (h' := (S.heap.put n (.cells r)).get) hc ho h1 (by simpa using h2) hone hr pr (fun m => by rw [Tr.get_put]) S.next
  refine ⟨w', ?_, ht⟩
  have hsize : u.cells.size = e.size := by omega
  simp [storeVar, r_size he, hsize, hrun]

theorem loadVar_run {t : TypeId} {e : TE} (he : te P t = some e) {n off : Nat} {x : AV} (h : loadA e S (.mp n off) = some x) (hr : HR E S.heap.get w) :
    ∃ u, (loadVar t ⟨E.blk n, E.sh n + off, none⟩).run P w = .ok u w ∧ VR E x u := by
  unfold loadA at h
  simp only [o2_eq, on3_eq, ob_some] at h
  obtain ⟨cs, hc, h⟩ := h
  obtain ⟨arr, el, fz, hw, _, hv⟩ := hr.reads hc
  exact run_loadVar he hw h _ hv rfl

/-! new blocks -/
theorem newB_does {b : AB} {o : Obj} {z : Nat} (hr : HR E S.heap.get w) (pr : PR E w) (hx : ¬ E.dom S.next) (hb : BR (E.add S.next w.heap.size 0 z) S.next b o) {w' : World} (hw : w'.heap = w.heap.push o) (he : Env w w') :
    Tran E S.heap.get w S.next (E.add S.next w.heap.size 0 z) (newB S b).heap.get w' (newB S b).next :=
  Tran.new hr pr hx hw he (fun n => by simp only [newB, Tr.get_put]) hb

theorem BR.row {E' : Gh} {n : Nat} {cs : List AV} {vs : Array Value} {el : TypeId} (b : Bool) (hs : E'.bsz n = vs.size) (h0 : E'.sh n = 0) (h : VRP E' cs vs.toList) : BR E' n (rowB b el cs) (.cells vs el) :=
  BR.ofRow (fz := (0, 0)) h0 hs (fun i _ => by simp) (by rw [h0]; simpa using h)

theorem add_self (E : Gh) (x b s z : Nat) : (E.add x b s z).dom x ∧ (E.add x b s z).blk x = b ∧ (E.add x b s z).sh x = s ∧ (E.add x b s z).bsz x = z :=
  ⟨.inr rfl, if_pos rfl, if_pos rfl, if_pos rfl⟩

/-- a new row of cells: the pointer to it -/
theorem newRowB_does {cs : List AV} {vs : Array Value} (b : Bool) (el : TypeId) (hr : HR E S.heap.get w) (pr : PR E w) (hx : ¬ E.dom S.next) (h : VRP E cs vs.toList) :
    ∃ a w' E', (newRow el vs).run P w = .ok a w' ∧ E'.dom S.next ∧ a = ⟨E'.blk S.next, E'.sh S.next, none⟩ ∧ E'.sh S.next = 0 ∧ E'.bsz S.next = vs.size ∧ Tran E S.heap.get w S.next E' (newB S (rowB b el cs)).heap.get w' (newB S (rowB b el cs)).next := by
  obtain ⟨a1, a2, a3, a4⟩ := add_self E S.next w.heap.size 0 vs.size
  refine ⟨⟨w.heap.size, 0, none⟩, _, E.add S.next w.heap.size 0 vs.size, by simp only [newRow, Sem.run_bind, run_newObj, Result.andThen_ok]; rfl, a1, by rw [a2, a3], a3, a4, ?_⟩
  exact newB_does hr pr hx (BR.row b a4 a3 (VRP.mono (Ext.add hx _ _ _) _ _ h)) rfl ⟨rfl, rfl, rfl⟩

theorem newRow_does {cs : List AV} {vs : Array Value} (el : TypeId) (hr : HR E S.heap.get w) (pr : PR E w) (hx : ¬ E.dom S.next) (h : VRP E cs vs.toList) :
    ∃ a w' E', (newRow el vs).run P w = .ok a w' ∧ E'.dom S.next ∧ a = ⟨E'.blk S.next, E'.sh S.next, none⟩ ∧ E'.sh S.next = 0 ∧ E'.bsz S.next = vs.size ∧ Tran E S.heap.get w S.next E' (newB S (.cells cs)).heap.get w' (newB S (.cells cs)).next :=
  newRowB_does false el hr pr hx h

theorem alloc_does {b : Bool} {t : TypeId} {e : TE} (he : te P t = some e) (hr : HR E S.heap.get w) (pr : PR E w) (hx : ¬ E.dom S.next) :
    DoesV P (Instr.alloc t true (.tuple #[])) E S w (.mp S.next 0) (newB S (rowB b t e.zero.cells)) := by
  obtain ⟨z, hz, hzr⟩ := r_zero he
  obtain ⟨a, w', E', hrun, h1, h2, h3, _, ht⟩ := newRowB_does (P := P) b t hr pr hx (cv_rel E hz).cells.1
  refine ⟨.pointer (some a), w', E', ?_, ?_, ht⟩
  · simp [Instr.alloc, hzr, newVar, hrun]
  · simp only [VR]; exact ⟨h1, by rw [h2]; simp⟩

theorem allocArr_does {t : TypeId} {e : TE} {v : AV} (he : te P t = some e) (h : allocArr P e S = some (v, S')) (hr : HR E S.heap.get w) (pr : PR E w) (hx : ¬ E.dom S.next) :
    S' = newB S (.cells e.zero.cells) ∧ DoesV P (Instr.alloc t true (.tuple #[])) E S w v S' := by
  unfold allocArr at h
  split at h
  · rename_i m el hu
    simp only [o2_eq, on3_eq, ob_some, chk_some, Option.some.injEq, Prod.mk.injEq, nbeq_iff] at h
    obtain ⟨g, hg, _, hl, rfl, rfl⟩ := h
    refine ⟨rfl, ?_⟩
    obtain ⟨z, hz, hzr⟩ := r_zero he
    obtain ⟨a, w', E', hrun, h1, h2, h3, h4, ht⟩ := newRow_does (P := P) t hr pr hx (cv_rel E hz).cells.1
    have h5 := (cv_rel E hz).cells.2
    refine ⟨.pointer (some a), w', E', ?_, ?_, ht⟩
    · simp [Instr.alloc, hzr, newVar, hrun]
    · simp only [VR]; exact ⟨h1, by rw [h2], by rw [h3, h4]; omega⟩
  · cases h

theorem box_does {t : TypeId} {x : AV} {v : Value} (hv : VR E x v) (hr : HR E S.heap.get w) (pr : PR E w) (hx : ¬ E.dom S.next) :
    DoesV P (Instr.box t v) E S w (.mp S.next 0) (newB S (.cells x.cells)) := by
  obtain ⟨a, w', E', hrun, h1, h2, h3, _, ht⟩ := newRow_does (P := P) t hr pr hx hv.cells.1
  refine ⟨.pointer (some a), w', E', ?_, ?_, ht⟩
  · simp [Instr.box, newVar, hrun]
  · simp only [VR]; exact ⟨h1, by rw [h2]; simp⟩

/-! literals of structs, arrays, slices -/
def PartsR (E : Gh) : List (Nat × AV) → List (Nat × Value) → Prop
  | [], [] => True
  | p :: ps, q :: qs => p.1 = q.1 ∧ VR E p.2 q.2 ∧ PartsR E ps qs
  | _, _ => False

theorem fold_over : ∀ (us : List Value) (k off : Nat) (arr : Array Value), off + k + us.length ≤ arr.size →
    ((us.zipIdx k).foldl (fun cs (p : Value × Nat) => cs.setIfInBounds (off + p.2) p.1) arr) = overArr arr (off + k) us
  | [], k, off, arr, _ => by simp [overArr_nil]
  | u :: us, k, off, arr, h => by
    simp only [List.zipIdx_cons, List.foldl_cons]
    rw [fold_over us (k + 1) off _ (by simp at h ⊢; omega), show off + (k + 1) = off + k + 1 from by omega, overArr_cons _ _ _ _ (by simpa using h)]

theorem PartsR.mono {E E' : Gh} (x : Ext E E') : ∀ (ps : List (Nat × AV)) (qs : List (Nat × Value)), PartsR E ps qs → PartsR E' ps qs
  | [], [], h => h
  | [], _ :: _, h => by simp only [PartsR] at h
  | _ :: _, [], h => by simp only [PartsR] at h
  | p :: ps, q :: qs, h => by
    simp only [PartsR] at h ⊢
    exact ⟨h.1, VR.mono x _ _ h.2.1, PartsR.mono x ps qs h.2.2⟩
theorem fill_rel {place place' : Nat → Option (Nat × Nat)} (hp : ∀ i p, place i = some p → place' i = some p) :
    ∀ (parts : List (Nat × AV)) (qs : List (Nat × Value)) (cells r : List AV) (arr : Array Value), fillA place cells parts = some r → PartsR E parts qs → VRP E cells arr.toList → cells.length = arr.size →
      ∃ arr', Instr.fill place' arr qs = some arr' ∧ VRP E r arr'.toList ∧ r.length = arr'.size
  | [], [], cells, r, arr, h, _, hc, hl => by
    simp only [fillA, Option.some.injEq] at h
    subst h
    exact ⟨arr, rfl, hc, hl⟩
  | [], _ :: _, _, _, _, _, hq, _, _ => by simp only [PartsR] at hq
  | _ :: _, [], _, _, _, _, hq, _, _ => by simp only [PartsR] at hq
  | (i, x) :: parts, (j, v) :: qs, cells, r, arr, h, hq, hc, hl => by
    simp only [PartsR] at hq
    obtain ⟨rfl, hx, hq⟩ := hq
    simp only [fillA, o2_eq, on3_eq, ob_some, chk_some] at h
    obtain ⟨⟨off, size⟩, hpl, _, hsz, r1, ho, h⟩ := h
    rw [nbeq_iff] at hsz
    simp only at hsz ho
    obtain ⟨h1, h2⟩ := hx.cells
    have hol := over_len ho
    have hov := over_rel ho hc h1 (by simpa using h2)
    have hroom : off + v.cells.size ≤ arr.size := by omega
    obtain ⟨arr', hf, hr', hl'⟩ := fill_rel hp parts qs r1 r (overArr arr off v.cells.toList) h hq (by
      unfold overArr
      simpa using hov) (by rw [overArr_size _ _ _ (by simpa using hroom)]; omega)
    refine ⟨arr', ?_, hr', hl'⟩
    simp only [Instr.fill, hp i _ hpl]
    rw [if_neg (by simp; omega)]
    have := fold_over v.cells.toList 0 off arr (by simpa using hroom)
    rw [← Array.foldl_toList, Array.toList_zipIdx]
    simp only [Nat.add_zero] at this
    rw [this]; exact hf

theorem places_run : ∀ {fs : List Field} {ps : List (Nat × Nat)}, placesA P fs = some ps → (fs.mapM fun f => Prod.mk f.offset <$> sizeOf f.type).run P w = .ok ps w
  | [], ps, h => by simp only [placesA, Option.some.injEq] at h; subst h; rfl
  | f :: fs, ps, h => by
    simp only [placesA, o2_eq, on3_eq, ob_some, Option.some.injEq] at h
    obtain ⟨g, hg, r, hr, rfl⟩ := h
    simp [List.mapM_cons, r_size hg, places_run hr]

theorem build_rel {t : TypeId} {parts : List (Nat × AV)} {qs : Array (Nat × Value)} {x : AV} (h : buildA P t parts = some x) (hq : PartsR E parts qs.toList) :
    ∃ v, (∀ w, (Instr.build t qs).run P w = .ok v w) ∧ VR E x v := by
  simp only [buildA, o2_eq, on3_eq, ob_some] at h
  obtain ⟨e, he, h⟩ := h
  obtain ⟨z, hz, hzr⟩ := r_zero he
  obtain ⟨hz1, hz2⟩ := (cv_rel E hz).cells
  split at h
  · rename_i fields hund
    simp only [o2_eq, on3_eq, ob_some, Option.some.injEq] at h
    obtain ⟨ps, hps, r, hf, rfl⟩ := h
    obtain ⟨arr', hfill, h1, h2⟩ := fill_rel (place' := fun i => ps[i]?) (fun i p hp => hp) _ _ _ _ _ hf hq hz1 (by simpa using hz2)
    refine ⟨.agg arr', fun w => ?_, by simp only [VR]; exact ⟨_, rfl, h1, h2⟩⟩
    have hm : (fields.mapM fun (f : Field) => Prod.mk f.offset <$> sizeOf f.type).run P w = .ok ps.toArray w := by
      rw [Array.mapM_eq_mapM_toList, Sem.run_map, places_run hps]
      rfl
    simp [Instr.build, hzr, r_und he, hund, hm, hfill]
  · rename_i n elem hund
    simp only [o2_eq, on3_eq, ob_some, Option.some.injEq] at h
    obtain ⟨g, hg, r, hf, rfl⟩ := h
    obtain ⟨arr', hfill, h1, h2⟩ := fill_rel (place' := fun i => some (i * g.size, g.size)) (fun i p hp => hp) _ _ _ _ _ hf hq hz1 (by simpa using hz2)
    refine ⟨.agg arr', fun w => ?_, by simp only [VR]; exact ⟨_, rfl, h1, h2⟩⟩
    simp [Instr.build, hzr, r_und he, hund, r_size hg, hfill]
  · cases h


theorem repl_cells : ∀ (z : List Value) (n : Nat), z ≠ [] → ((List.range (n * z.length)).map fun i => z[i % z.length]!) = (List.replicate n z).flatten
  | z, 0, _ => by simp
  | z, n + 1, hz => by
    have hl : 0 < z.length := List.length_pos_iff.2 hz
    rw [Nat.add_mul, Nat.one_mul, Nat.add_comm, List.range_add, List.map_append, List.map_map, List.replicate_succ, List.flatten_cons]
    congr 1
    · apply List.ext_getElem
      · simp
      · intro i h1 h2
        simp at h1
        simp [Nat.mod_eq_of_lt h1, h1]
    · rw [← repl_cells z n hz]
      apply List.map_congr_left
      intro i _
      simp

theorem repl_rel {zs : List AV} {z : List Value} (h : VRP E zs z) (hl : zs.length = z.length) : ∀ n, VRP E (repl zs n) (List.replicate n z).flatten ∧ (repl zs n).length = n * zs.length
  | 0 => by simp [repl, VRP.nil]
  | n + 1 => by
    have ih := repl_rel h hl n
    simp only [repl, List.replicate_succ, List.flatten_cons, List.length_append, ih.2]
    exact ⟨VRP.append h hl ih.1, by rw [Nat.add_mul]; omega⟩

/-- the cells of a new row of zero values -/
theorem zeros_rel {g : TE} {z : Value} (hz : cv z = some g.zero) (hg : g.zero.cells.length = g.size) (n : Nat) :
    VRP E (repl g.zero.cells n) ((Array.range (n * g.size)).map ((if n * g.size = 0 then #[] else z.cells)[· % (if n * g.size = 0 then #[] else z.cells).size]!)).toList ∧
      (repl g.zero.cells n).length = n * g.size := by
  obtain ⟨h1, h2⟩ := (cv_rel E hz).cells
  have hr := repl_rel h1 (by simpa using h2) n
  refine ⟨?_, by rw [hr.2, hg]⟩
  by_cases h0 : n * g.size = 0
  · have : repl g.zero.cells n = [] := List.eq_nil_of_length_eq_zero (by rw [hr.2, hg, h0])
    rw [this]; exact VRP.nil
  · have hs : z.cells.size = g.size := by omega
    have hne : z.cells.toList ≠ [] := by
      intro e
      have : z.cells.size = 0 := by simpa using congrArg List.length e
      rw [hs] at this; rw [this] at h0; simp at h0
    have := repl_cells z.cells.toList n hne
    simp only [h0, if_false, Array.toList_map, Array.toList_range]
    have e : (List.range (n * g.size)).map (fun x => z.cells[x % z.cells.size]!) = (List.replicate n z.cells.toList).flatten := by
      rw [← this, show z.cells.toList.length = g.size from by simpa using hs]
      apply List.map_congr_left
      intro i _
      rw [hs]
      simp [getElem!_def]
    rw [e]; exact hr.1

theorem buildSlice_does {t : TypeId} {len : Nat} {parts : List (Nat × AV)} {qs : Array (Nat × Value)} {x : AV} (h : buildSliceA P S t len parts = some (x, S')) (hq : PartsR E parts qs.toList)
    (hr : HR E S.heap.get w) (pr : PR E w) (hx : ¬ E.dom S.next) : DoesV P (Instr.buildSlice t len qs) E S w x S' := by
  simp only [buildSliceA, o2_eq, on3_eq, ob_some, chk_some, Bool.and_eq_true, Option.some.injEq, Prod.mk.injEq, nble_iff, nbeq_iff] at h
  obtain ⟨e, he, elem, hel, g, hg, _, ⟨hb, hgz⟩, r, hf, rfl, rfl⟩ := h
  have hund : e.und = .slice elem := by
    unfold sliceOf at hel
    split at hel <;> simp_all
  obtain ⟨z, hz, hzr⟩ := r_zero hg
  obtain ⟨hz1, hz2⟩ := zeros_rel (E := E) hz hgz len
  obtain ⟨arr', hfill, h1, h2⟩ := fill_rel (place' := fun i => some (i * g.size, g.size)) (fun i p hp => hp) _ _ _ _ _ hf hq hz1 (by rw [hz2]; simp)
  obtain ⟨a, w', E', hrun, d1, d2, d3, d4, ht⟩ := newRow_does (P := P) elem hr pr hx h1
  refine ⟨.slice (some a) len len, w', E', ?_, ?_, ht⟩
  · have hno : ¬ (len * g.size > 2 ^ 24) := by
      have : (2 : Nat) ^ 24 = 16777216 := rfl
      omega
    generalize hzc : (if len * g.size = 0 then #[] else z.cells) = zc at hfill
    simp only [Instr.buildSlice, Sem.run_bind, r_und he, hund, Result.andThen_ok, r_size hg, bind_pure_comp]
    rw [if_neg hno]
    by_cases h0 : len * g.size = 0
    · rw [if_pos h0] at hzc ⊢
      subst hzc
      simp only [Sem.run_bind, Sem.run_pure, Result.andThen_ok, hfill, Sem.run_map, hrun]
    · rw [if_neg h0] at hzc ⊢
      subst hzc
      simp only [Sem.run_bind, hzr, Sem.run_pure, Result.andThen_ok, hfill, Sem.run_map, hrun]
  · simp only [VR]
    have hlen : r.length = len * g.size := by
      have : ∀ (ps : List (Nat × AV)) (pl : Nat → Option (Nat × Nat)) (c r : List AV), fillA pl c ps = some r → r.length = c.length := by
        intro ps
        induction ps with
        | nil => intro pl c r h; simp only [fillA, Option.some.injEq] at h; subst h; rfl
        | cons p ps ih =>
          intro pl c r h
          obtain ⟨i, v⟩ := p
          simp only [fillA, o2_eq, on3_eq, ob_some, chk_some] at h
          obtain ⟨_, _, _, _, r1, ho, h⟩ := h
          rw [ih _ _ _ h, (over_len ho).2]
      rw [this _ _ _ _ hf, hz2]
    refine ⟨d1, len, by rw [d2]; simp, Nat.le_refl _, by rw [d3, d4]; omega, fun k hk => by cases hk; rfl⟩

theorem wrap64_small {n : Nat} (h : n ≤ big) : IntKind.i64.wrap (n : Int) = n := by
  unfold big at h
  simp only [IntKind.wrap, IntKind.bits, IntKind.signed]
  have e : ((n : Int) % (2 ^ 64 : Int)) = n := Int.emod_eq_of_lt (by omega) (by omega)
  simp only [e]
  rw [if_neg]
  simp
  omega

theorem makeSlice_does {t : TypeId} {l c x : AV} {lv cv' : Value} (h : makeSliceA P S t l c = some (x, S')) (hl : VR E l lv) (hc : VR E c cv')
    (hr : HR E S.heap.get w) (pr : PR E w) (hx : ¬ E.dom S.next) : DoesV P (Instr.makeSlice t lv cv') E S w x S' := by
  simp only [makeSliceA, o2_eq, on3_eq, ob_some, chk_some, Bool.and_eq_true, Option.some.injEq, Prod.mk.injEq, nble_iff, nbeq_iff] at h
  obtain ⟨n, hn, m, hm, e, he, elem, hel, g, hg, _, ⟨⟨⟨hb1, hb2⟩, hb3⟩, hgz⟩, rfl, rfl⟩ := h
  obtain ⟨k1, rfl⟩ := asN_rel hn hl
  obtain ⟨k2, rfl⟩ := asN_rel hm hc
  have hund : e.und = .slice elem := by
    unfold sliceOf at hel
    split at hel <;> simp_all
  obtain ⟨z, hz, hzr⟩ := r_zero hg
  obtain ⟨i, hi, hi1, hi2⟩ := r_info hg
  obtain ⟨hz1, hz2⟩ := zeros_rel (E := E) hz hgz m
  obtain ⟨a, w', E', hrun, d1, d2, d3, d4, ht⟩ := newRow_does (P := P) elem hr pr hx hz1
  have w1 := wrap64_small (Nat.le_trans hb1 hb3)
  have w2 := wrap64_small hb3
  refine ⟨.slice (some a) n m, w', E', ?_, ?_, ht⟩
  · have t1 : ¬ ((i.bytes : Int) * (m : Int) > 2 ^ 48) := by
      have h48 : (2 : Int) ^ 48 = 281474976710656 := rfl
      rw [h48, hi2, ← Int.natCast_mul]
      unfold big at hb2
      omega
    have t2 : (decide ((m : Int) < 0) || decide ((n : Int) < 0) || decide ((n : Int) > (m : Int))) = false := by
      simp; omega
    generalize hzc : (if m * g.size = 0 then #[] else z.cells) = zc at hrun
    simp only [Instr.makeSlice, Sem.run_bind, r_und he, hund, Result.andThen_ok, asInt, asIntOf, Sem.run_pure, hi, w1, w2, bind_pure_comp, Sem.run_map, t1, decide_false, Bool.or_false]
    rw [t2]
    simp only [Bool.false_eq_true, if_false, Sem.run_bind, run_askRoom, Result.andThen_ok, r_size hg, Int.toNat_natCast]
    by_cases h0 : m * g.size = 0
    · rw [if_pos h0] at hzc ⊢
      subst hzc
      simp only [Sem.run_bind, Sem.run_pure, Result.andThen_ok, Sem.run_map, hrun]
    · rw [if_neg h0] at hzc ⊢
      subst hzc
      simp only [Sem.run_bind, hzr, Sem.run_pure, Result.andThen_ok, Sem.run_map, hrun]
  · simp only [VR]
    refine ⟨d1, m, by rw [d2]; simp, hb1, by rw [d3, d4]; simp, fun k hk => by cases hk; rfl⟩

end
end Go.Eng
