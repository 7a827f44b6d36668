/-
  The four ways in which memory changes, and what the model's operations on memory do to a block.
-/
import Derived.Test.YtjkdpgkpghcfbaaGreatDoorEngRel
set_option linter.unusedSimpArgs false
set_option linter.unusedVariables false
namespace Go.Eng
set_option linter.unusedSectionVars false
variable [Gl] [Mx]

/-! ghosts that grow -/
noncomputable def Gh.add (E : Gh) (x b s z : Nat) : Gh :=
  { dom := fun n => E.dom n ∨ n = x, blk := fun n => if n = x then b else E.blk n, sh := fun n => if n = x then s else E.sh n,
    bsz := fun n => if n = x then z else E.bsz n, prot := E.prot }

theorem Ext.add {E : Gh} {x : Nat} (hx : ¬ E.dom x) (b s z : Nat) : Ext E (E.add x b s z) := by
  have ne : ∀ n, E.dom n → n ≠ x := fun n d e => hx (e ▸ d)
  exact ⟨fun n d => .inl d, fun n d => if_neg (ne n d), fun n d => if_neg (ne n d), fun n d => if_neg (ne n d), fun _ _ h => h⟩

theorem HR.lt {E : Gh} {h : Nat → Option AB} {w : World} (hr : HR E h w) {n : Nat} {b : AB} (hb : h n = some b) : E.blk n < w.heap.size := by
  obtain ⟨_, o, ho, _⟩ := hr.blk n b hb
  exact (Array.getElem?_eq_some_iff.1 ho).1

theorem PR.lt {E : Gh} {w : World} (pr : PR E w) {b : Nat} {arr : Array Value} (hb : E.prot b = some arr) : b < w.heap.size := by
  obtain ⟨el, fz, ho⟩ := pr.blk b arr hb
  exact (Array.getElem?_eq_some_iff.1 ho).1

/-- a new block -/
theorem Tran.new {E : Gh} {h h' : Nat → Option AB} {w w' : World} {x z : Nat} {b : AB} {o : Obj} (hr : HR E h w) (pr : PR E w) (hx : ¬ E.dom x)
    (hw : w'.heap = w.heap.push o) (he : Env w w') (hh : ∀ n, h' n = if n = x then some b else h n) (hb : BR (E.add x w.heap.size 0 z) x b o) :
    Tran E h w x (E.add x w.heap.size 0 z) h' w' (x + 1) := by
  have ext := Ext.add hx w.heap.size 0 z
  have ne : ∀ n b, h n = some b → n ≠ x := fun n b hb e => hx (e ▸ (hr.blk n b hb).1)
  have bx : (E.add x w.heap.size 0 z).blk x = w.heap.size := if_pos rfl
  have old : ∀ n b, n ≠ x → h' n = some b → h n = some b := fun n b hn hb => by rw [hh, if_neg hn] at hb; exact hb
  refine ⟨ext, Nat.le_succ x, ?_, ⟨?_, ?_, ?_⟩, ?_, ?_, ?_, ?_, ?_, ?_, he⟩
  · rintro n (d | rfl)
    · exact .inl d
    · exact .inr ⟨Nat.le_refl _, Nat.lt_succ_self _⟩
  · intro n c hc
    by_cases e : n = x
    · subst e
      rw [hh, if_pos rfl] at hc
      cases hc
      refine ⟨.inr rfl, o, ?_, hb⟩
      rw [bx, hw]; simp
    · obtain ⟨d, o', ho, hbr⟩ := hr.blk n c (old n c e hc)
      refine ⟨.inl d, o', ?_, hbr.mono ext d⟩
      have hlt := (Array.getElem?_eq_some_iff.1 ho).1
      rw [ext.blk n d, hw, Array.getElem?_push, if_neg (by omega), ho]
  · intro n c hc hmut
    by_cases e : n = x
    · subst e
      rw [bx]
      show E.prot w.heap.size = none
      cases hp : E.prot w.heap.size with
      | none => rfl
      | some arr => exact absurd (pr.lt hp) (Nat.lt_irrefl _)
    · rw [ext.blk n (hr.blk n c (old n c e hc)).1]
      exact hr.free n c (old n c e hc) hmut
  · intro n m c c' hc hc' e
    by_cases en : n = x <;> by_cases em : m = x
    · rw [en, em]
    · exfalso
      subst en
      have hl := hr.lt (old m c' em hc')
      rw [bx, ext.blk m (hr.blk m c' (old m c' em hc')).1] at e
      omega
    · exfalso
      subst em
      have hl := hr.lt (old n c en hc)
      rw [bx, ext.blk n (hr.blk n c (old n c en hc)).1] at e
      omega
    · have h1 := old n c en hc
      have h2 := old m c' em hc'
      rw [ext.blk n (hr.blk n c h1).1, ext.blk m (hr.blk m c' h2).1] at e
      exact hr.inj n m c c' h1 h2 e
  · refine ⟨?_, fun g v hg => VR.mono ext.ice _ _ (pr.gl g v hg)⟩
    intro k arr hk
    obtain ⟨el, fz, ho⟩ := pr.blk k arr hk
    have hlt := (Array.getElem?_eq_some_iff.1 ho).1
    exact ⟨el, fz, by rw [hw, Array.getElem?_push, if_neg (by omega), ho]⟩
  · rw [hw]; simp
  · intro n c hc
    by_cases e : n = x
    · exact .inr ⟨by omega, by omega⟩
    · exact .inl ⟨c, old n c e hc⟩
  · intro n c hc hlt
    by_cases e : n = x
    · subst e; rw [bx] at hlt; omega
    · exact ⟨n, c, old n c e hc, (ext.blk n (hr.blk n c (old n c e hc)).1).symm⟩
  · intro k hk _
    rw [hw, Array.getElem?_push, if_neg (by omega)]
  · intro k _ _; rfl

/-- a block changed in place -/
theorem Tran.set {E : Gh} {h h' : Nat → Option AB} {w w' : World} {n : Nat} (x : Nat) {b b' : AB} {o : Obj} (hr : HR E h w) (pr : PR E w) (hb : h n = some b) (hbm : b.mut = true)
    (hw : w'.heap = w.heap.setIfInBounds (E.blk n) o) (he : Env w w') (hh : ∀ m, h' m = if m = n then some b' else h m) (hbr : BR E n b' o) : Tran E h w x E h' w' x := by
  have hlt := hr.lt hb
  have old : ∀ m c, m ≠ n → h' m = some c → h m = some c := fun m c hm hc => by rw [hh, if_neg hm] at hc; exact hc
  have some' : ∀ m c, h' m = some c → ∃ c', h m = some c' := fun m c hc => by
    by_cases e : m = n
    · exact ⟨b, e ▸ hb⟩
    · exact ⟨c, old m c e hc⟩
  have keep : ∀ k, k ≠ E.blk n → w'.heap[k]? = w.heap[k]? := fun k hk => by rw [hw, Array.getElem?_setIfInBounds_ne (Ne.symm hk)]
  refine ⟨Ext.refl E, Nat.le_refl x, fun _ d => .inl d, ⟨?_, ?_, ?_⟩, ?_, ?_, fun m c hc => .inl (some' m c hc), ?_, ?_, fun _ _ _ => rfl, he⟩
  · intro m c hc
    by_cases e : m = n
    · subst e
      rw [hh, if_pos rfl] at hc
      cases hc
      exact ⟨(hr.blk m b hb).1, o, by rw [hw]; simp [hlt], hbr⟩
    · have hc' := old m c e hc
      obtain ⟨d, o', ho, hbr'⟩ := hr.blk m c hc'
      exact ⟨d, o', by rw [keep _ (fun e' => e (hr.inj m n c b hc' hb e')), ho], hbr'⟩
  · intro m c hc hmut
    by_cases e : m = n
    · subst e; exact hr.free m b hb hbm
    · exact hr.free m c (old m c e hc) hmut
  · intro m k c c' hc hc' e
    obtain ⟨d, hd⟩ := some' m c hc
    obtain ⟨d', hd'⟩ := some' k c' hc'
    exact hr.inj m k d d' hd hd' e
  · refine ⟨?_, pr.gl⟩
    intro k arr hk
    obtain ⟨el, fz, ho⟩ := pr.blk k arr hk
    exact ⟨el, fz, by rw [keep k (fun e => by rw [e, hr.free n b hb hbm] at hk; cases hk), ho]⟩
  · rw [hw]; simp
  · intro m c hc _
    obtain ⟨c', hc'⟩ := some' m c hc
    exact ⟨m, c', hc', rfl⟩
  · intro k _ hk
    exact keep k (fun e => hk n b hb e.symm)

/-- a block changed in place and known under a new name from now on; the old name is given up -/
theorem Tran.rename {E : Gh} {h h' : Nat → Option AB} {w w' : World} {n x s : Nat} {b b' : AB} {o : Obj} (hr : HR E h w) (pr : PR E w) (hx : ¬ E.dom x) (hb : h n = some b) (hbm : b.mut = true)
    (hw : w'.heap = w.heap.setIfInBounds (E.blk n) o) (he : Env w w') (hh : ∀ m, h' m = if m = x then some b' else if m = n then none else h m)
    (hbr : BR (E.add x (E.blk n) s (E.bsz n)) x b' o) : Tran E h w x (E.add x (E.blk n) s (E.bsz n)) h' w' (x + 1) := by
  have ext := Ext.add hx (E.blk n) s (E.bsz n)
  have hlt := hr.lt hb
  have bx : (E.add x (E.blk n) s (E.bsz n)).blk x = E.blk n := if_pos rfl
  have old : ∀ m c, m ≠ x → h' m = some c → m ≠ n ∧ h m = some c := fun m c hm hc => by
    rw [hh, if_neg hm] at hc
    by_cases e : m = n
    · rw [if_pos e] at hc; cases hc
    · rw [if_neg e] at hc; exact ⟨e, hc⟩
  have keep : ∀ k, k ≠ E.blk n → w'.heap[k]? = w.heap[k]? := fun k hk => by rw [hw, Array.getElem?_setIfInBounds_ne (Ne.symm hk)]
  refine ⟨ext, Nat.le_succ x, ?_, ⟨?_, ?_, ?_⟩, ?_, ?_, ?_, ?_, ?_, fun _ _ _ => rfl, he⟩
  · rintro m (d | rfl)
    · exact .inl d
    · exact .inr ⟨Nat.le_refl _, Nat.lt_succ_self _⟩
  · intro m c hc
    by_cases e : m = x
    · subst e
      rw [hh, if_pos rfl] at hc
      cases hc
      exact ⟨.inr rfl, o, by rw [bx, hw]; simp [hlt], hbr⟩
    · obtain ⟨en, hc'⟩ := old m c e hc
      obtain ⟨d, o', ho, hbr'⟩ := hr.blk m c hc'
      exact ⟨.inl d, o', by rw [ext.blk m d, keep _ (fun e' => en (hr.inj m n c b hc' hb e')), ho], hbr'.mono ext d⟩
  · intro m c hc hmut
    by_cases e : m = x
    · subst e; rw [bx]; exact hr.free n b hb hbm
    · obtain ⟨_, hc'⟩ := old m c e hc
      rw [ext.blk m (hr.blk m c hc').1]; exact hr.free m c hc' hmut
  · intro m k c c' hc hc' e
    by_cases em : m = x <;> by_cases ek : k = x
    · rw [em, ek]
    · exfalso
      obtain ⟨en, hk⟩ := old k c' ek hc'
      rw [em, bx, ext.blk k (hr.blk k c' hk).1] at e
      exact en (hr.inj k n c' b hk hb e.symm)
    · exfalso
      obtain ⟨en, hk⟩ := old m c em hc
      rw [ek, bx, ext.blk m (hr.blk m c hk).1] at e
      exact en (hr.inj m n c b hk hb e)
    · obtain ⟨_, h1⟩ := old m c em hc
      obtain ⟨_, h2⟩ := old k c' ek hc'
      rw [ext.blk m (hr.blk m c h1).1, ext.blk k (hr.blk k c' h2).1] at e
      exact hr.inj m k c c' h1 h2 e
  · refine ⟨?_, fun g v hg => VR.mono ext.ice _ _ (pr.gl g v hg)⟩
    intro k arr hk
    obtain ⟨el, fz, ho⟩ := pr.blk k arr hk
    exact ⟨el, fz, by rw [keep k (fun e => by
      have hk' : E.prot k = some arr := hk
      rw [e, hr.free n b hb hbm] at hk'; cases hk'), ho]⟩
  · rw [hw]; simp
  · intro m c hc
    by_cases e : m = x
    · exact .inr ⟨by omega, by omega⟩
    · exact .inl ⟨c, (old m c e hc).2⟩
  · intro m c hc _
    by_cases e : m = x
    · subst e; exact ⟨n, b, hb, bx.symm⟩
    · obtain ⟨_, hc'⟩ := old m c e hc
      exact ⟨m, c, hc', (ext.blk m (hr.blk m c hc').1).symm⟩
  · intro k _ hk
    exact keep k (fun e => hk n b hb e.symm)

/-- a block changed and given up -/
theorem Tran.drop {E : Gh} {h h' : Nat → Option AB} {w w' : World} {n : Nat} (x : Nat) {b : AB} {o : Obj} (hr : HR E h w) (pr : PR E w) (hb : h n = some b) (hbm : b.mut = true)
    (hw : w'.heap = w.heap.setIfInBounds (E.blk n) o) (he : Env w w') (hh : ∀ m, h' m = if m = n then none else h m) : Tran E h w x E h' w' x := by
  have old : ∀ m c, h' m = some c → m ≠ n ∧ h m = some c := fun m c hc => by
    rw [hh] at hc
    by_cases e : m = n
    · rw [if_pos e] at hc; cases hc
    · rw [if_neg e] at hc; exact ⟨e, hc⟩
  have keep : ∀ k, k ≠ E.blk n → w'.heap[k]? = w.heap[k]? := fun k hk => by rw [hw, Array.getElem?_setIfInBounds_ne (Ne.symm hk)]
  refine ⟨Ext.refl E, Nat.le_refl x, fun _ d => .inl d, ⟨?_, ?_, ?_⟩, ⟨?_, pr.gl⟩, ?_, fun m c hc => .inl ⟨c, (old m c hc).2⟩, fun m c hc _ => ⟨m, c, (old m c hc).2, rfl⟩, fun k _ hk => keep k (fun e => hk n b hb e.symm), fun _ _ _ => rfl, he⟩
  · intro m c hc
    obtain ⟨e, hc'⟩ := old m c hc
    obtain ⟨d, o', ho, hbr'⟩ := hr.blk m c hc'
    exact ⟨d, o', by rw [keep _ (fun e' => e (hr.inj m n c b hc' hb e')), ho], hbr'⟩
  · intro m c hc hmut
    exact hr.free m c (old m c hc).2 hmut
  · intro m k c c' hc hc' e
    exact hr.inj m k c c' (old m c hc).2 (old k c' hc').2 e
  · intro k arr hk
    obtain ⟨el, fz, ho⟩ := pr.blk k arr hk
    exact ⟨el, fz, by rw [keep k (fun e => by rw [e, hr.free n b hb hbm] at hk; cases hk), ho]⟩
  · rw [hw]; simp

theorem set_same {α : Type} {a : Array α} {b : Nat} {o : α} (h : a[b]? = some o) : a.setIfInBounds b o = a := by
  have hlt := (Array.getElem?_eq_some_iff.1 h).1
  apply Array.ext_getElem?
  intro i
  by_cases e : b = i
  · subst e; rw [h]; simp [hlt]
  · rw [Array.getElem?_setIfInBounds_ne e]

theorem set_set {α : Type} (a : Array α) (b : Nat) (o o' : α) : (a.setIfInBounds b o).setIfInBounds b o' = a.setIfInBounds b o' := by
  apply Array.ext_getElem?
  intro i
  by_cases e : b = i
  · subst e; simp [Array.getElem?_setIfInBounds]
  · rw [Array.getElem?_setIfInBounds_ne e, Array.getElem?_setIfInBounds_ne e, Array.getElem?_setIfInBounds_ne e]

/-! the model's loads and stores of a block -/
section
variable {P : Program} {w : World} {b o : Nat} {arr : Array Value} {el : TypeId} {fz : Nat × Nat}

theorem add_mk (b o n : Nat) : (⟨b, o, none⟩ : Addr).add n = ⟨b, o + n, none⟩ := by
  unfold Addr.add
  by_cases h : n = 0
  · subst h; simp
  · rw [if_neg h]

theorem cell_at (h : w.heap[b]? = some (.cells arr el fz)) : w.cell? ⟨b, o, none⟩ = arr[o]? := by
  simp [World.cell?, h]

theorem frozen_at (h : w.heap[b]? = some (.cells arr el fz)) : w.frozen? ⟨b, o, none⟩ = (decide (fz.1 ≤ o) && decide (o < fz.2)) := by
  obtain ⟨lo, hi⟩ := fz
  simp [World.frozen?, h]

theorem run_load_at (h : w.heap[b]? = some (.cells arr el fz)) {v : Value} (hv : arr[o]? = some v) : (load ⟨b, o, none⟩).run P w = .ok v w := by
  rw [run_load, cell_at h, hv]

theorem run_loadFrom (h : w.heap[b]? = some (.cells arr el fz)) : ∀ (n i : Nat) (acc : Array Value), o + i + n ≤ arr.size →
    (loadCellsFrom ⟨b, o, none⟩ i n acc).run P w = .ok (acc ++ ((arr.toList.drop (o + i)).take n).toArray) w
  | 0, i, acc, _ => by simp [loadCellsFrom]
  | n + 1, i, acc, hn => by
    have hlt : o + i < arr.size := by omega
    have hv : arr[o + i]? = some arr[o + i] := Array.getElem?_eq_getElem hlt
    simp only [loadCellsFrom, Sem.run_bind, add_mk, run_load_at h hv, Result.andThen_ok, run_loadFrom h n (i + 1) _ (by omega)]
    congr 1
    have e : (arr.toList.drop (o + i)).take (n + 1) = arr[o + i] :: (arr.toList.drop (o + (i + 1))).take n := by
      rw [List.drop_eq_getElem_cons (by simpa using hlt), List.take_succ_cons]
      simp [Nat.add_assoc]
    rw [e]
    simp

theorem run_loadCells (h : w.heap[b]? = some (.cells arr el fz)) (n : Nat) (hn : o + n ≤ arr.size) :
    (loadCells ⟨b, o, none⟩ n).run P w = .ok ((arr.toList.drop o).take n).toArray w := by
  unfold loadCells
  rw [run_loadFrom h n 0 #[] (by omega)]
  simp

/-- the cells of a block with vs laid over them from o on -/
def overArr (arr : Array Value) (o : Nat) (vs : List Value) : Array Value := (arr.toList.take o ++ vs ++ arr.toList.drop (o + vs.length)).toArray

theorem overArr_size (arr : Array Value) (o : Nat) (vs : List Value) (h : o + vs.length ≤ arr.size) : (overArr arr o vs).size = arr.size := by
  unfold overArr; simp; omega

theorem overArr_nil (arr : Array Value) (o : Nat) : overArr arr o [] = arr := by
  unfold overArr
  apply Array.toList_inj.1
  simp

theorem overArr_cons (arr : Array Value) (o : Nat) (v : Value) (vs : List Value) (h : o + (v :: vs).length ≤ arr.size) :
    overArr (arr.setIfInBounds o v) (o + 1) vs = overArr arr o (v :: vs) := by
  have hlt : o < arr.toList.length := by simp at h ⊢; omega
  unfold overArr
  congr 1
  rw [Array.toList_setIfInBounds]
  have e1 : (arr.toList.set o v).take (o + 1) = arr.toList.take o ++ [v] := by
    rw [List.take_succ_eq_append_getElem (by simpa using hlt)]
    simp [List.take_set]
    apply List.set_eq_of_length_le
    simp; omega
  have e2 : (arr.toList.set o v).drop (o + 1 + vs.length) = arr.toList.drop (o + (v :: vs).length) := by
    rw [List.drop_set_of_lt (by omega), show o + 1 + vs.length = o + (v :: vs).length from by simp; omega]
  rw [e1, e2]; simp

theorem heap_setCell (h : w.heap[b]? = some (.cells arr el fz)) (v : Value) :
    (w.setCell ⟨b, o, none⟩ v).heap = w.heap.setIfInBounds b (.cells (arr.setIfInBounds o v) el fz) := by
  have hlt := (Array.getElem?_eq_some_iff.1 h).1
  have hg : w.heap[b] = .cells arr el fz := (Array.getElem?_eq_some_iff.1 h).2
  apply Array.ext_getElem?
  intro i
  by_cases e : b = i
  · subst e
    simp only [World.setCell, Array.getElem?_modify, h, if_true, Option.map_some, Option.isSome_none, Bool.false_eq_true, if_false]
    simp [hlt]
  · simp [World.setCell, Array.getElem?_modify, e, Array.getElem?_setIfInBounds_ne e]

theorem run_storeCells : ∀ (vs : List Value) (i : Nat) (w : World) (arr : Array Value), w.heap[b]? = some (.cells arr el fz) →
    (∀ j, j < arr.size → (decide (fz.1 ≤ j) && decide (j < fz.2)) = false) → (∀ v ∈ vs, v.oneCell' = true) → o + i + vs.length ≤ arr.size →
    ∃ w', (storeCells ⟨b, o, none⟩ vs i).run P w = .ok () w' ∧ w'.heap = w.heap.setIfInBounds b (.cells (overArr arr (o + i) vs) el fz) ∧ Env w w'
  | [], i, w, arr, h, _, _, _ => by
    refine ⟨w, rfl, ?_, Env.refl w⟩
    rw [overArr_nil, set_same h]
  | v :: vs, i, w, arr, h, hf, ho, hn => by
    have hlt : o + i < arr.size := by simp at hn; omega
    have hblk := (Array.getElem?_eq_some_iff.1 h).1
    have hv : arr[o + i]? = some arr[o + i] := Array.getElem?_eq_getElem hlt
    have h1 : (store ⟨b, o + i, none⟩ v).run P w = .ok () (w.setCell ⟨b, o + i, none⟩ v) := by
      rw [run_store P w _ v _ (ho v (by simp)), cell_at h, hv, frozen_at h, hf _ hlt]
      rfl
    have hheap := heap_setCell (o := o + i) h v
    have h2 : (w.setCell ⟨b, o + i, none⟩ v).heap[b]? = some (.cells (arr.setIfInBounds (o + i) v) el fz) := by
      rw [hheap]; simp [hblk]
    obtain ⟨w', hr, hw, henv⟩ := run_storeCells vs (i + 1) _ _ h2 (by simpa using hf) (fun u hu => ho u (by simp [hu])) (by simp at hn ⊢; omega)
    refine ⟨w', ?_, ?_, (⟨rfl, rfl, rfl⟩ : Env w (w.setCell ⟨b, o + i, none⟩ v)).trans henv⟩
    · simp only [storeCells, Sem.run_bind, add_mk, h1, Result.andThen_ok, hr]
    · rw [hw, hheap]
      rw [show o + (i + 1) = o + i + 1 from by omega, overArr_cons _ _ _ _ (by simpa using hn)]
      rw [set_set]
end

/-! lists laid over lists -/
theorem over0_rel {E : Gh} : ∀ {cs xs r : List AV} {vs us : List Value}, over0 cs xs = some r → VRP E cs vs → VRP E xs us → xs.length = us.length → VRP E r (us ++ vs.drop us.length)
  | cs, [], r, vs, us, h, hc, _, hl => by
    simp only [over0, Option.some.injEq] at h
    subst h
    cases us with
    | nil => simpa using hc
    | cons _ _ => simp at hl
  | [], _ :: _, r, _, _, h, _, _, _ => by simp [over0] at h
  | c :: cs, x :: xs, r, vs, us, h, hc, hx, hl => by
    simp only [over0, o2_eq, on3_eq, ob_some, Option.some.injEq] at h
    obtain ⟨r', hr, rfl⟩ := h
    cases us with
    | nil => simp at hl
    | cons u us =>
      cases vs with
      | nil => simp only [VRP] at hc
      | cons v vs =>
        rw [VRP.cons_iff] at hc hx
        simp only [List.cons_append, List.length_cons, List.drop_succ_cons, VRP.cons_iff]
        exact ⟨hx.1, over0_rel hr hc.2 hx.2 (by simpa using hl)⟩

theorem over0_len : ∀ {cs xs r : List AV}, over0 cs xs = some r → xs.length ≤ cs.length ∧ r.length = cs.length
  | cs, [], r, h => by simp only [over0, Option.some.injEq] at h; subst h; exact ⟨Nat.zero_le _, rfl⟩
  | [], _ :: _, r, h => by simp [over0] at h
  | c :: cs, x :: xs, r, h => by
    simp only [over0, o2_eq, on3_eq, ob_some, Option.some.injEq] at h
    obtain ⟨r', hr, rfl⟩ := h
    have := over0_len hr
    simp; omega

theorem over_rel {E : Gh} : ∀ {cs : List AV} {n : Nat} {xs r : List AV} {vs us : List Value}, over cs n xs = some r → VRP E cs vs → VRP E xs us → xs.length = us.length →
    VRP E r (vs.take n ++ us ++ vs.drop (n + us.length))
  | cs, 0, xs, r, vs, us, h, hc, hx, hl => by
    have h' : over0 cs xs = some r := by cases cs <;> exact h
    simpa using over0_rel h' hc hx hl
  | [], _ + 1, _, _, _, _, h, _, _, _ => by simp [over] at h
  | c :: cs, n + 1, xs, r, vs, us, h, hc, hx, hl => by
    simp only [over, o2_eq, on3_eq, ob_some, Option.some.injEq] at h
    obtain ⟨r', hr, rfl⟩ := h
    cases vs with
    | nil => simp only [VRP] at hc
    | cons v vs =>
      rw [VRP.cons_iff] at hc
      have := over_rel hr hc.2 hx hl
      rw [show n + 1 + us.length = (n + us.length) + 1 from by omega]
      simp only [List.take_succ_cons, List.cons_append, List.drop_succ_cons, VRP.cons_iff]
      exact ⟨hc.1, this⟩

theorem over_len : ∀ {cs : List AV} {n : Nat} {xs r : List AV}, over cs n xs = some r → n + xs.length ≤ cs.length ∧ r.length = cs.length
  | cs, 0, xs, r, h => by
    have h' : over0 cs xs = some r := by cases cs <;> exact h
    simpa using over0_len h'
  | [], _ + 1, _, _, h => by simp [over] at h
  | c :: cs, n + 1, xs, r, h => by
    simp only [over, o2_eq, on3_eq, ob_some, Option.some.injEq] at h
    obtain ⟨r', hr, rfl⟩ := h
    have := over_len hr
    simp; omega

theorem sub_some {cs : List AV} {off n : Nat} {r : List AV} (h : sub cs off n = some r) : r = (cs.drop off).take n ∧ r.length = n ∧ off + n ≤ max cs.length off := by
  unfold sub at h
  simp only at h
  cases hb : ((cs.drop off).take n).length.beq n <;> rw [hb] at h
  · cases h
  · cases h
    rw [nbeq_iff] at hb
    refine ⟨rfl, hb, ?_⟩
    simp at hb
    omega

end Go.Eng
