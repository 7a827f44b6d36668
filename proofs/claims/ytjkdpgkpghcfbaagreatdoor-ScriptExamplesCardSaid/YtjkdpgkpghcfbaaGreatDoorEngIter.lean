/-
  Iteration over maps.
-/
import Derived.Test.YtjkdpgkpghcfbaaGreatDoorEngCall
namespace Go.Eng
set_option linter.unusedSectionVars false
set_option linter.unusedVariables false
set_option linter.unusedSimpArgs false
variable [Gl] [Mx]
section
variable {P : Program} {E : Gh} {S S' : St} {w : World}

theorem iter_rel (hr : HR E S.heap.get w) {r : Nat} {m : Option Nat} {since : Nat} {seen : List Nat} {last : Nat} (h : S.heap.get r = some (.iter m since seen last)) :
    (∀ k, m = some k → E.dom k) ∧ E.sh r = 0 ∧ w.heap[E.blk r]? = some (.mapIter (m.map E.blk) since seen.toArray last) := by
  obtain ⟨_, o, ho, hb⟩ := hr.blk r _ h
  simp only [BR] at hb
  obtain ⟨h1, h2, rfl⟩ := hb
  exact ⟨h1, h2, ho⟩
theorem run_getIter {r : Nat} {m : Option Nat} {a b : Nat} {s : Array Nat} (h : w.heap[r]? = some (.mapIter m a s b)) : (getObj r).run P w = .ok (.mapIter m a s b) w := by
  simp [getObj, Sem.run, h]
theorem run_setIter {r : Nat} {m : Option Nat} {a b : Nat} {s : Array Nat} (h : w.heap[r]? = some (.mapIter m a s b)) (o : Obj) : (setObj r o).run P w = .ok () { w with heap := w.heap.setIfInBounds r o } := by
  simp [setObj, Sem.run, h]
theorem MR.filter {p : Nat → Bool} : ∀ {es : List ME} {fs : List MapEntry}, MR E es fs → MR E (es.filter fun e => p e.born) (fs.filter fun e => p e.born)
  | [], [], _ => by simp [MR]
  | [], _ :: _, h => by simp only [MR] at h
  | _ :: _, [], h => by simp only [MR] at h
  | e :: es, f :: fs, h => by
    simp only [MR] at h
    have ih := MR.filter (p := p) h.2.2.2
    rw [List.filter_cons, List.filter_cons, ← h.2.2.1]
    cases p e.born
    · exact ih
    · simp only [if_true, MR]; exact ⟨h.1, h.2.1, h.2.2.1, ih⟩
theorem MR.app : ∀ {es es' : List ME} {fs fs' : List MapEntry}, MR E es fs → MR E es' fs' → MR E (es ++ es') (fs ++ fs')
  | [], _, [], _, _, h => h
  | [], _, _ :: _, _, h, _ => by simp only [MR] at h
  | _ :: _, _, [], _, h, _ => by simp only [MR] at h
  | e :: es, es', f :: fs, fs', h, h' => by
    simp only [MR] at h
    simp only [List.cons_append, MR]
    exact ⟨h.1, h.2.1, h.2.2.1, MR.app h.2.2.2 h'⟩
theorem MR.get : ∀ {es : List ME} {fs : List MapEntry}, MR E es fs → ∀ {i : Nat} {f : MapEntry}, fs[i]? = some f → ∃ e, es[i]? = some e ∧ VR E e.key f.key ∧ VR E e.val f.val ∧ e.born = f.born
  | [], [], _, i, f, h => by simp at h
  | [], _ :: _, h, _, _, _ => by simp only [MR] at h
  | _ :: _, [], h, _, _, _ => by simp only [MR] at h
  | e :: es, f :: fs, h, 0, g, hg => by
    simp only [MR] at h
    simp at hg; subst hg
    exact ⟨e, rfl, h.1, h.2.1, h.2.2.1⟩
  | e :: es, f :: fs, h, i + 1, g, hg => by
    simp only [MR] at h
    exact MR.get h.2.2.2 (by simpa using hg)
theorem MR.all {p : Nat → Bool} : ∀ {es : List ME} {fs : List MapEntry}, MR E es fs → (es.all fun e => p e.born) = fs.all fun e => p e.born
  | [], [], _ => rfl
  | [], _ :: _, h => by simp only [MR] at h
  | _ :: _, [], h => by simp only [MR] at h
  | e :: es, f :: fs, h => by
    simp only [MR] at h
    simp only [List.all_cons, h.2.2.1, MR.all h.2.2.2]
theorem MR.find {p : Nat → Bool} : ∀ {es : List ME} {fs : List MapEntry} {e : ME}, MR E es fs → es.find? (fun e => p e.born) = some e → ∃ f, fs.find? (fun e => p e.born) = some f ∧ VR E e.key f.key ∧ VR E e.val f.val
  | [], [], _, _, h => by simp at h
  | [], _ :: _, _, h, _ => by simp only [MR] at h
  | _ :: _, [], _, h, _ => by simp only [MR] at h
  | e :: es, f :: fs, g, h, hf => by
    simp only [MR] at h
    rw [List.find?_cons] at hf ⊢
    rw [← h.2.2.1]
    cases hp : p e.born <;> rw [hp] at hf
    · exact MR.find h.2.2.2 hf
    · cases hf; exact ⟨f, rfl, h.1, h.2.1⟩

theorem HR.sameHeap {E : Gh} {h : Nat → Option AB} {w w' : World} (hr : HR E h w) (e : w'.heap = w.heap) : HR E h w' := ⟨fun n b hb => by rw [e]; exact hr.blk n b hb, hr.free, hr.inj⟩
theorem PR.sameHeap {E : Gh} {w w' : World} (pr : PR E w) (e : w'.heap = w.heap) : PR E w' := ⟨fun b arr hb => by rw [e]; exact pr.blk b arr hb, pr.gl⟩
theorem Tran.fromHeap {E E' : Gh} {h h' : Nat → Option AB} {w w1 w' : World} {x y : Nat} (t : Tran E h w1 x E' h' w' y) (e : w1.heap = w.heap) (he : Env w w1) : Tran E h w x E' h' w' y :=
  ⟨t.ext, t.le, t.dom, t.hr, t.pr, by rw [← e]; exact t.size, t.names, by rw [← e]; exact t.own, by rw [← e]; exact t.frame, by rw [← e]; exact t.prot, he.trans t.env⟩


/-- the entries that may come, as the machine sees them -/
def candF (es : List MapEntry) (since : Nat) (seen : List Nat) : List (Option MapEntry) :=
  let left := es.filter fun e => !seen.contains e.born
  let old := left.filter fun e => decide (e.born < since)
  let new := left.filter fun e => decide (e.born ≥ since)
  (bif old.isEmpty then [none] else []) ++ (old ++ new).map some
theorem cand_get {es : List ME} {fs : List MapEntry} {since : Nat} {seen : List Nat} (hm : MR E es fs) :
    (candA es since seen).length = (candF fs since seen).length ∧ 0 < (candF fs since seen).length ∧ ∀ (i : Nat) (o : Option MapEntry), (candF fs since seen)[i]? = some o → match o with
      | none => (candA es since seen)[i]? = some none
      | some (f : MapEntry) => ∃ e : ME, (candA es since seen)[i]? = some (some e) ∧ VR E e.key f.key ∧ VR E e.val f.val ∧ e.born = f.born := by
  have ho := MR.filter (p := fun b => decide (b < since)) (MR.filter (p := fun b => !seen.contains b) hm)
  have hn := MR.filter (p := fun b => decide (b ≥ since)) (MR.filter (p := fun b => !seen.contains b) hm)
  have ha := MR.app ho hn
  unfold candA candF
  dsimp only
  generalize (List.filter (fun e => decide (e.born < since)) (List.filter (fun e => !seen.contains e.born) es)) = oe at ho ha ⊢
  generalize (List.filter (fun e => decide (e.born < since)) (List.filter (fun e => !seen.contains e.born) fs)) = of at ho ha ⊢
  generalize (List.filter (fun e => decide (e.born ≥ since)) (List.filter (fun e => !seen.contains e.born) es)) = ne at hn ha ⊢
  generalize (List.filter (fun e => decide (e.born ≥ since)) (List.filter (fun e => !seen.contains e.born) fs)) = nf at hn ha ⊢
  have hl := ha.len
  have main : ∀ (i : Nat) (f : MapEntry), (of ++ nf)[i]? = some f → ∃ e, ((oe ++ ne).map some)[i]? = some (some e) ∧ VR E e.key f.key ∧ VR E e.val f.val ∧ e.born = f.born := fun i f hf => by
    obtain ⟨e, he, h1, h2, h3⟩ := ha.get hf
    exact ⟨e, by rw [List.getElem?_map, he]; rfl, h1, h2, h3⟩
  have hol := ho.len
  cases oe with
  | nil =>
    have : of = [] := List.eq_nil_of_length_eq_zero (by simpa using hol.symm)
    subst this
    refine ⟨by simp at hl ⊢; omega, by simp, fun i o hi => ?_⟩
    cases i with
    | zero => simp at hi; subst hi; rfl
    | succ i =>
      simp only [List.isEmpty_nil, cond_true, List.cons_append, List.nil_append, List.getElem?_cons_succ] at hi ⊢
      rw [List.getElem?_map] at hi
      cases hq : nf[i]? with
      | none => rw [hq] at hi; cases hi
      | some f => rw [hq] at hi; cases hi; exact main i f (by simpa using hq)
  | cons e0 oe =>
    cases of with
    | nil => simp at hol
    | cons f0 of =>
      refine ⟨by simp at hl ⊢; omega, by simp, fun i o hi => ?_⟩
      simp only [List.isEmpty_cons, cond_false, List.nil_append] at hi ⊢
      rw [List.getElem?_map] at hi
      cases hq : (f0 :: of ++ nf)[i]? with
      | none => rw [hq] at hi; cases hi
      | some f => rw [hq] at hi; cases hi; exact main i f hq

theorem range_does {t : TypeId} {x z : AV} {xv : Value} (h : rangeA P S t x = some (z, S')) (hx : VR E x xv) (hr : HR E S.heap.get w) (pr : PR E w) (hS : ¬ E.dom S.next) : DoesV P (Instr.range t xv) E S w z S' := by
  unfold rangeA at h
  simp only [o2_eq, on3_eq, ob_some] at h
  obtain ⟨e, he, h⟩ := h
  obtain ⟨a1, a2, a3, a4⟩ := add_self E S.next w.heap.size 0 0
  split at h
  · rename_i k v hund
    cases h
    simp only [VR] at hx
    subst hx
    refine ⟨.pointer (some ⟨w.heap.size, 0, none⟩), { w with heap := w.heap.push (.mapIter none 0 #[] 0) }, E.add S.next w.heap.size 0 0, ?_, ?_, newB_does (o := .mapIter none 0 #[] 0) hr pr hS (by simp only [BR]; exact ⟨(fun k hk => by cases hk), a3, rfl⟩) rfl ⟨rfl, rfl, rfl⟩⟩
    · simp [Instr.range, r_und he, hund]
    · simp only [VR]; exact ⟨a1, by rw [a2, a3]⟩
  · rename_i k v n hund
    simp only [o2_eq, on3_eq, ob_some, Option.some.injEq, Prod.mk.injEq] at h
    obtain ⟨⟨es, c⟩, hes, rfl, rfl⟩ := h
    simp only [VR] at hx
    obtain ⟨hd, rfl⟩ := hx
    obtain ⟨arr, ho, hm⟩ := hr.entries hes
    have hne : n ≠ S.next := fun e => hS (by rw [← e]; exact hd)
    have hb : (E.add S.next w.heap.size 0 0).blk n = E.blk n := (Ext.add hS w.heap.size 0 0).blk n hd
    refine ⟨.pointer (some ⟨w.heap.size, 0, none⟩), { w with heap := w.heap.push (.mapIter (some (E.blk n)) c #[] c) }, E.add S.next w.heap.size 0 0, ?_, ?_, newB_does (o := .mapIter (some (E.blk n)) c #[] c) hr pr hS (by simp only [BR]; exact ⟨(fun k hk => by cases hk; exact (Ext.add hS w.heap.size 0 0).dom n hd), a3, by simp [hb]⟩) rfl ⟨rfl, rfl, rfl⟩⟩
    · simp [Instr.range, r_und he, hund, run_getMap ho]
    · simp only [VR]; exact ⟨a1, by rw [a2, a3]⟩
  · cases h

theorem entry_does {x z : AV} {xv : Value} (h : entryA S x = some z) (hx : VR E x xv) (hr : HR E S.heap.get w) (pr : PR E w) : DoesV P (Instr.entry xv) E S w z S := by
  unfold entryA at h
  split at h
  · rename_i r
    simp only [o2_eq, on3_eq, ob_some] at h
    obtain ⟨b, hb, h⟩ := h
    split at h
    · rename_i m since seen stepped
      simp only [o2_eq, on3_eq, ob_some, chk_some, nbeq_iff, Option.some.injEq] at h
      obtain ⟨stamp, hst, ⟨es, c⟩, hes, _, hc, e, hf, rfl⟩ := h
      dsimp only at hc hf
      obtain ⟨hd, hsh, ho⟩ := iter_rel hr hb
      obtain ⟨arr, ho2, hm⟩ := hr.entries hes
      obtain ⟨f, hf2, hk, hv⟩ := MR.find (p := fun b => b == stamp) hm hf
      simp only [VR] at hx
      obtain ⟨_, rfl⟩ := hx
      rw [hsh]
      have hback : seen.toArray.back? = some stamp := by simpa using hst
      refine DoesV.same hr pr (v' := .tuple #[f.key, f.val]) ?_ (VR.tup2 hk hv)
      simp only [Nat.zero_add, Instr.entry, Sem.run_bind, run_getIter ho, Result.andThen_ok, Option.map_some, hback, run_getMap ho2]
      rw [show (c != stepped) = false by simp [hc]]
      simp only [Bool.false_eq_true, if_false]
      have hf3 : arr.find? (fun e => e.born == stamp) = some f := by
        rw [← Array.find?_toList]; exact hf2
      simp [hf3]
    · cases h
  · cases h

/-- one of the entries that may come does -/
theorem next_does {x : AV} {xv : Value} {ty : TypeId} {outs : List (AV × St)} (h : nextA S x = some outs) (hx : VR E x xv) (hr : HR E S.heap.get w) (pr : PR E w) : ∃ r ∈ outs, DoesV P (Instr.next xv false ty) E S w r.1 r.2 := by
  have over : VR E (.tup [.bool false]) (.tuple #[.bool false]) := by
    simp only [VR]
    exact ⟨_, rfl, VRP.cons_iff.2 ⟨by simp only [VR], VRP.nil⟩, rfl⟩
  unfold nextA at h
  split at h
  · rename_i r
    simp only [o2_eq, on3_eq, ob_some] at h
    obtain ⟨b, hb, h⟩ := h
    simp only [VR] at hx
    obtain ⟨hdr, rfl⟩ := hx
    split at h
    · rename_i since seen last
      cases h
      obtain ⟨hd, hsh, ho⟩ := iter_rel hr hb
      rw [hsh]
      refine ⟨_, List.mem_singleton.2 rfl, DoesV.same hr pr (v' := .tuple #[.bool false]) ?_ over⟩
      simp [Instr.next, run_getIter ho]
    · rename_i m since seen last
      simp only [o2_eq, on3_eq, ob_some, chk_some, Option.some.injEq] at h
      obtain ⟨⟨es, c⟩, hes, _, hno, rfl⟩ := h
      obtain ⟨hd, hsh, ho⟩ := iter_rel hr hb
      obtain ⟨arr, ho2, hm⟩ := hr.entries hes
      rw [hsh]
      dsimp only at hno ⊢
      have hall : (arr.all fun e => decide (e.born ≥ last)) = es.all fun e => decide (e.born ≥ last) := by
        rw [← Array.all_toList]; exact (MR.all (p := fun b => decide (b ≥ last)) hm).symm
      have hemp : arr.isEmpty = es.isEmpty := by
        have := hm.len
        cases es with
        | nil => simp at this; simp [Array.isEmpty, ← this]
        | cons e es => simp at this; simp [Array.isEmpty, ← this]
      have hsemp : seen.toArray.isEmpty = seen.isEmpty := by cases seen <;> rfl
      obtain ⟨hcl, hcp, hcg⟩ := cand_get (since := since) (seen := seen) hm
      have hcand : ((if (Array.filter (fun e => decide (e.born < since)) (Array.filter (fun e => !seen.toArray.contains e.born) arr)).isEmpty = true then #[none] else #[]) ++ (Array.filter (fun e => decide (e.born < since)) (Array.filter (fun e => !seen.toArray.contains e.born) arr) ++ Array.filter (fun e => decide (e.born ≥ since)) (Array.filter (fun e => !seen.toArray.contains e.born) arr)).map some : Array (Option MapEntry)) = (candF arr.toList since seen).toArray := by
        have hc : ∀ b : Nat, seen.toArray.contains b = seen.contains b := fun b => by simp
        rw [← Array.toList_inj]
        unfold candF
        simp only [hc, Array.toList_append, Array.toList_map, Array.toList_filter]
        congr 1
        cases hO : (List.filter (fun e => decide (e.born < since)) (List.filter (fun e => !seen.contains e.born) arr.toList)) with
        | nil =>
          have : (Array.filter (fun e => decide (e.born < since)) (Array.filter (fun e => !seen.contains e.born) arr)).isEmpty = true := by
            rw [← Array.isEmpty_toList, Array.toList_filter, Array.toList_filter, hO]; rfl
          rw [if_pos this]; rfl
        | cons x l =>
          have : (Array.filter (fun e => decide (e.born < since)) (Array.filter (fun e => !seen.contains e.born) arr)).isEmpty = false := by
            rw [← Array.isEmpty_toList, Array.toList_filter, Array.toList_filter, hO]; rfl
          rw [if_neg (by rw [this]; simp)]; rfl
      have step : ∀ (i : Nat) (w1 : World), w1.heap = w.heap → Env w w1 → i < (candF arr.toList since seen).length → ∃ p0 ∈ (candA es since seen).map (fun o => match o with
          | none => (AV.tup [.bool false], S)
          | some e => (AV.tup [.bool true, e.key, e.val], { S with heap := S.heap.put r (.iter (some m) since (seen ++ [e.born]) c) })), ∃ v' w' E', (match (candF arr.toList since seen)[i]? with
            | some (some e) => do
              setObj (E.blk r) (.mapIter (some (E.blk m)) since (seen.toArray.push e.born) c)
              pure (.tuple #[.bool true, e.key, e.val])
            | some none => pure (.tuple #[.bool false])
            | none => stuck "Next: no such candidate" : Sem Value).run P w1 = .ok v' w' ∧ VR E' p0.1 v' ∧ Tran E S.heap.get w S.next E' p0.2.heap.get w' p0.2.next := fun i w1 hw1 he1 hi => by
        obtain ⟨o, hgo⟩ : ∃ o, (candF arr.toList since seen)[i]? = some o := ⟨_, List.getElem?_eq_getElem hi⟩
        have hg := hcg i o hgo
        rw [hgo]
        cases o with
        | none =>
          refine ⟨_, List.mem_map.2 ⟨none, List.mem_of_getElem? hg, rfl⟩, .tuple #[.bool false], w1, E, rfl, over, ?_⟩
          exact Tran.fromHeap (Tran.refl S.next (hr.sameHeap hw1) (pr.sameHeap hw1)) hw1 he1
        | some f =>
          obtain ⟨e, hge, hk, hv, hbn⟩ := hg
          have ho1 : w1.heap[E.blk r]? = some (.mapIter (some (E.blk m)) since seen.toArray last) := by rw [hw1]; exact ho
          have hv3 : VR E (.tup [.bool true, e.key, e.val]) (.tuple #[.bool true, f.key, f.val]) := by
            simp only [VR]
            exact ⟨_, rfl, VRP.cons_iff.2 ⟨by simp only [VR], VRP.cons_iff.2 ⟨hk, VRP.cons_iff.2 ⟨hv, VRP.nil⟩⟩⟩, rfl⟩
          refine ⟨_, List.mem_map.2 ⟨some e, List.mem_of_getElem? hge, rfl⟩, .tuple #[.bool true, f.key, f.val], { w1 with heap := w1.heap.setIfInBounds (E.blk r) (.mapIter (some (E.blk m)) since (seen.toArray.push f.born) c) }, E, ?_, hv3, ?_⟩
          · simp [run_setIter ho1]
          · refine Tran.fromHeap (Tran.set S.next (hr.sameHeap hw1) (pr.sameHeap hw1) (n := r) hb rfl rfl ⟨rfl, rfl, rfl⟩ (fun k => by rw [Tr.get_put]) ?_) hw1 he1
            simp only [BR]
            exact ⟨hd, hsh, by simp [hbn]⟩
      have hg0 : (!seen.toArray.isEmpty && !arr.isEmpty && arr.all (fun x => decide (x.born ≥ last))) = false := by
        rw [hsemp, hemp, hall]; exact (Bool.not_eq_true' _).mp hno
      have run : ∀ (i : Nat) (w1 : World), (choose (.mapNext (candF arr.toList since seen).toArray.size)).run P w = .ok i w1 → (Instr.next (.pointer (some ⟨E.blk r, 0 + 0, none⟩)) false ty).run P w = (match (candF arr.toList since seen)[i]? with
            | some (some e) => do
              setObj (E.blk r) (.mapIter (some (E.blk m)) since (seen.toArray.push e.born) c)
              pure (.tuple #[.bool true, e.key, e.val])
            | some none => pure (.tuple #[.bool false])
            | none => stuck "Next: no such candidate" : Sem Value).run P w1 := fun i w1 hch => by
        simp only [Instr.next, Nat.zero_add, Sem.run_bind, run_getIter ho, Result.andThen_ok, Option.map_some, run_getMap ho2, hg0, Bool.false_eq_true, if_false]
        rw [hcand, hch]
        simp only [Result.andThen_ok, List.getElem?_toArray]
        generalize (candF arr.toList since seen)[i]? = o
        cases o with
        | none => rfl
        | some o => cases o <;> rfl
      obtain ⟨i, w1, hch, hw1, he1, hi⟩ : ∃ i w1, (choose (.mapNext (candF arr.toList since seen).toArray.size)).run P w = .ok i w1 ∧ w1.heap = w.heap ∧ Env w w1 ∧ i < (candF arr.toList since seen).length := by
        rw [run_choose, List.size_toArray]
        by_cases hf : (Question.mapNext (candF arr.toList since seen).length).forced = true
        · exact ⟨_, _, if_pos hf, rfl, Env.refl w, hcp⟩
        · exact ⟨_, _, if_neg hf, rfl, ⟨rfl, rfl, rfl⟩, Nat.mod_lt _ hcp⟩
      obtain ⟨p0, hp0, v', w', E', h1, h2, h3⟩ := step i w1 hw1 he1 hi
      exact ⟨p0, hp0, v', w', E', (run i w1 hch).trans h1, h2, h3⟩
    · cases h
  · cases h
end
end Go.Eng
