/-
  Every operation of the engine describes the model's.
-/
import Derived.Test.YtjkdpgkpghcfbaaGreatDoorEngIter
set_option linter.unusedSimpArgs false
set_option linter.unusedVariables false
namespace Go.Eng
set_option linter.unusedSectionVars false
variable [Gl] [Mx]
section
variable {P : Program} {E : Gh} {S S' : St} {w : World} {T : Tm}

theorem buildSlice_next {t : TypeId} {n : Nat} {vs : List (Nat × AV)} {v : AV} (h : buildSliceA P S t n vs = some (v, S')) : S.next < S'.next := by
  unfold buildSliceA at h
  rw [ob_some] at h; obtain ⟨_, _, h⟩ := h
  rw [ob_some] at h; obtain ⟨_, _, h⟩ := h
  rw [ob_some] at h; obtain ⟨_, _, h⟩ := h
  rw [ob_some] at h; obtain ⟨_, _, h⟩ := h
  rw [ob_some] at h; obtain ⟨_, _, h⟩ := h
  have := (Prod.mk.inj (Option.some.inj h)).2
  rw [← this]
  exact Nat.lt_succ_self _

theorem makeSlice_next {t : TypeId} {l c v : AV} (h : makeSliceA P S t l c = some (v, S')) : S.next < S'.next := by
  unfold makeSliceA at h
  rw [ob_some] at h; obtain ⟨_, _, h⟩ := h
  rw [ob_some] at h; obtain ⟨_, _, h⟩ := h
  rw [ob_some] at h; obtain ⟨_, _, h⟩ := h
  rw [ob_some] at h; obtain ⟨_, _, h⟩ := h
  rw [ob_some] at h; obtain ⟨_, _, h⟩ := h
  rw [ob_some] at h; obtain ⟨_, _, h⟩ := h
  have := (Prod.mk.inj (Option.some.inj h)).2
  rw [← this]
  exact Nat.lt_succ_self _

theorem sim_move {pol : FuncId → Bool} {rec : RunT} {dst : Option Tmp} {type : TypeId} {pos : String} {after : Array Edge} {guard : Option (Nat × Bool)} {x : Operand} {a : Act} {v : AV} (h : (aOp pol P (Op.move x)).f rec T S = some (v, S'))
    (ho : ∀ y0 ∈ (Op.move x).operands.toList, ∀ u, ev T y0 = some u → VR E u (a.eval y0)) (hr : HR E S.heap.get w) (pr : PR E w) 
    {next : Act → World → Prop} {Q : Exit → Act → World → Prop}
    (hn : ∀ v' w' E', VR E' v v' → Tran E S.heap.get w S.next E' S'.heap.get w' S'.next → next (a.put dst v') w') : (⟨dst, .move x, type, pos, after, guard⟩ : Oper).wp P a w next Q := by
  simp only [aOp, o2_eq, on3_eq, ob_some, Option.some.injEq, Prod.mk.injEq] at h
  obtain ⟨u, hu, rfl, rfl⟩ := h
  exact wp_of_does (Does.val hr pr (ho x (by simp [Op.operands]) u hu)) hn

theorem sim_assign {pol : FuncId → Bool} {rec : RunT} {dst : Option Tmp} {type : TypeId} {pos : String} {after : Array Edge} {guard : Option (Nat × Bool)} {x : Operand} {a : Act} {v : AV} (h : (aOp pol P (Op.assign x)).f rec T S = some (v, S'))
    (ho : ∀ y0 ∈ (Op.assign x).operands.toList, ∀ u, ev T y0 = some u → VR E u (a.eval y0)) (hr : HR E S.heap.get w) (pr : PR E w) 
    {next : Act → World → Prop} {Q : Exit → Act → World → Prop}
    (hn : ∀ v' w' E', VR E' v v' → Tran E S.heap.get w S.next E' S'.heap.get w' S'.next → next (a.put dst v') w') : (⟨dst, .assign x, type, pos, after, guard⟩ : Oper).wp P a w next Q := by
  simp only [aOp, o2_eq, on3_eq, ob_some, Option.some.injEq, Prod.mk.injEq] at h
  obtain ⟨u, hu, rfl, rfl⟩ := h
  exact wp_of_does (Does.val hr pr (ho x (by simp [Op.operands]) u hu)) hn

theorem sim_pick {pol : FuncId → Bool} {rec : RunT} {dst : Option Tmp} {type : TypeId} {pos : String} {after : Array Edge} {guard : Option (Nat × Bool)} {c x y : Operand} {a : Act} {v : AV} (h : (aOp pol P (Op.pick c x y)).f rec T S = some (v, S'))
    (ho : ∀ y0 ∈ (Op.pick c x y).operands.toList, ∀ u, ev T y0 = some u → VR E u (a.eval y0)) (hr : HR E S.heap.get w) (pr : PR E w) 
    {next : Act → World → Prop} {Q : Exit → Act → World → Prop}
    (hn : ∀ v' w' E', VR E' v v' → Tran E S.heap.get w S.next E' S'.heap.get w' S'.next → next (a.put dst v') w') : (⟨dst, .pick c x y, type, pos, after, guard⟩ : Oper).wp P a w next Q := by
  simp only [aOp, o2_eq, on3_eq, ob_some] at h
  obtain ⟨u, hu, h⟩ := h
  have hc := ho c (by simp [Op.operands]) u hu
  split at h
  · simp only [o2_eq, on3_eq, ob_some, Option.some.injEq, Prod.mk.injEq] at h
    obtain ⟨u', hu', rfl, rfl⟩ := h
    simp only [VR] at hc
    exact wp_of_does (by simpa [execOp, hc, asBool] using Does.val hr pr (ho x (by simp [Op.operands]) u' hu')) hn
  · simp only [o2_eq, on3_eq, ob_some, Option.some.injEq, Prod.mk.injEq] at h
    obtain ⟨u', hu', rfl, rfl⟩ := h
    simp only [VR] at hc
    exact wp_of_does (by simpa [execOp, hc, asBool] using Does.val hr pr (ho y (by simp [Op.operands]) u' hu')) hn
  · cases h

theorem sim_alloc {pol : FuncId → Bool} {rec : RunT} {dst : Option Tmp} {type : TypeId} {pos : String} {after : Array Edge} {guard : Option (Nat × Bool)} {t : TypeId} {a : Act} {v : AV} (h : (aOp pol P (Op.alloc t)).f rec T S = some (v, S'))
    (_ho : ∀ y0 ∈ (Op.alloc t).operands.toList, ∀ u, ev T y0 = some u → VR E u (a.eval y0)) (hr : HR E S.heap.get w) (pr : PR E w) (fresh : ∀ n, S.next ≤ n → n < S'.next → ¬ E.dom n)
    {next : Act → World → Prop} {Q : Exit → Act → World → Prop}
    (hn : ∀ v' w' E', VR E' v v' → Tran E S.heap.get w S.next E' S'.heap.get w' S'.next → next (a.put dst v') w') : (⟨dst, .alloc t, type, pos, after, guard⟩ : Oper).wp P a w next Q := by
  simp only [aOp] at h
  split at h
  · rename_i e he
    cases har : Mx.ar t <;> rw [har] at h
    · simp only [cond_false, Option.some.injEq, Prod.mk.injEq] at h
      obtain ⟨rfl, rfl⟩ := h
      exact wp_of_does (Does.ofV (alloc_does he hr pr (fresh _ (Nat.le_refl _) (Nat.lt_succ_self _)))) hn
    · have h : allocArr P e S = some (v, S') := h
      have hS : S' = newB S (.cells e.zero.cells) := by
        unfold allocArr at h
        split at h
        · simp only [o2_eq, on3_eq, ob_some, Option.some.injEq, Prod.mk.injEq] at h
          obtain ⟨_, _, _, _, _, rfl⟩ := h
          rfl
        · cases h
      have hf : ¬ E.dom S.next := fresh _ (Nat.le_refl _) (by rw [hS]; exact Nat.lt_succ_self _)
      exact wp_of_does (Does.ofV (allocArr_does he h hr pr hf).2) hn
  · cases h

theorem sim_box {pol : FuncId → Bool} {rec : RunT} {dst : Option Tmp} {type : TypeId} {pos : String} {after : Array Edge} {guard : Option (Nat × Bool)} {t : TypeId} {x : Operand} {a : Act} {v : AV} (h : (aOp pol P (Op.box t x)).f rec T S = some (v, S'))
    (ho : ∀ y0 ∈ (Op.box t x).operands.toList, ∀ u, ev T y0 = some u → VR E u (a.eval y0)) (hr : HR E S.heap.get w) (pr : PR E w) (fresh : ∀ n, S.next ≤ n → n < S'.next → ¬ E.dom n)
    {next : Act → World → Prop} {Q : Exit → Act → World → Prop}
    (hn : ∀ v' w' E', VR E' v v' → Tran E S.heap.get w S.next E' S'.heap.get w' S'.next → next (a.put dst v') w') : (⟨dst, .box t x, type, pos, after, guard⟩ : Oper).wp P a w next Q := by
  simp only [aOp] at h
  split at h
  · simp only [o2_eq, on3_eq, ob_some, Option.some.injEq, Prod.mk.injEq] at h
    obtain ⟨u, hu, rfl, rfl⟩ := h
    exact wp_of_does (Does.ofV (box_does (ho x (by simp [Op.operands]) u hu) hr pr (fresh _ (Nat.le_refl _) (Nat.lt_succ_self _)))) hn
  · cases h

theorem sim_build {pol : FuncId → Bool} {rec : RunT} {dst : Option Tmp} {type : TypeId} {pos : String} {after : Array Edge} {guard : Option (Nat × Bool)} {t : TypeId} {ps : Array (Nat × Operand)} {a : Act} {v : AV} (h : (aOp pol P (Op.build t ps)).f rec T S = some (v, S'))
    (ho : ∀ y0 ∈ (Op.build t ps).operands.toList, ∀ u, ev T y0 = some u → VR E u (a.eval y0)) (hr : HR E S.heap.get w) (pr : PR E w) 
    {next : Act → World → Prop} {Q : Exit → Act → World → Prop}
    (hn : ∀ v' w' E', VR E' v v' → Tran E S.heap.get w S.next E' S'.heap.get w' S'.next → next (a.put dst v') w') : (⟨dst, .build t ps, type, pos, after, guard⟩ : Oper).wp P a w next Q := by
  simp only [aOp, o2_eq, on3_eq, ob_some, Option.some.injEq, Prod.mk.injEq] at h
  obtain ⟨vs, hvs, u, hu, rfl, rfl⟩ := h
  have hp := evp_rel (ρ := a.eval) hvs (fun x hx => ho x.2 (by simp only [Op.operands]; simp; exact ⟨x.1, by simpa using hx⟩))
  obtain ⟨u', hrun, hv⟩ := build_rel (P := P) (E := E) (qs := ps.map fun (i, x) => (i, a.eval x)) hu (by simpa using hp)
  exact wp_of_does (Does.ofV (DoesV.same hr pr (hrun w) hv)) hn

theorem sim_buildSlice {pol : FuncId → Bool} {rec : RunT} {dst : Option Tmp} {type : TypeId} {pos : String} {after : Array Edge} {guard : Option (Nat × Bool)} {t : TypeId} {n : Nat} {ps : Array (Nat × Operand)} {a : Act} {v : AV} (h : (aOp pol P (Op.buildSlice t n ps)).f rec T S = some (v, S'))
    (ho : ∀ y0 ∈ (Op.buildSlice t n ps).operands.toList, ∀ u, ev T y0 = some u → VR E u (a.eval y0)) (hr : HR E S.heap.get w) (pr : PR E w) (fresh : ∀ n, S.next ≤ n → n < S'.next → ¬ E.dom n)
    {next : Act → World → Prop} {Q : Exit → Act → World → Prop}
    (hn : ∀ v' w' E', VR E' v v' → Tran E S.heap.get w S.next E' S'.heap.get w' S'.next → next (a.put dst v') w') : (⟨dst, .buildSlice t n ps, type, pos, after, guard⟩ : Oper).wp P a w next Q := by
  simp only [aOp, o2_eq, on3_eq, ob_some] at h
  obtain ⟨vs, hvs, h⟩ := h
  have hp := evp_rel (ρ := a.eval) hvs (fun x hx => ho x.2 (by simp only [Op.operands]; simp; exact ⟨x.1, by simpa using hx⟩))
  cases hbt : Mx.bt t <;> rw [hbt] at h
  · rw [bc_false] at h
    have hS : ¬ E.dom S.next := fresh _ (Nat.le_refl _) (buildSlice_next h)
    have hd := buildSlice_does (P := P) (qs := ps.map fun (i, x) => (i, a.eval x)) h (by simpa using hp) hr pr hS
    refine wp_of_does ?_ hn
    simp only [execOp]
    generalize Instr.buildSlice t n (ps.map fun (i, x) => (i, a.eval x)) = s at hd
    exact Does.ofV hd
  · rw [bc_true] at h
    simp only [o2_eq, on3_eq, ob_some] at h
    obtain ⟨⟨vs', S1⟩, hz, h⟩ := h
    dsimp only at h
    obtain ⟨E1, hp1, hn1, t1⟩ := frzP_ok _ _ _ E S S1 w hz hp hr pr
    have hS : ¬ E1.dom S1.next := fun hd => by
      rcases t1.dom _ hd with d | ⟨d1, d2⟩
      · rw [hn1] at d; exact fresh _ (Nat.le_refl _) (by have := buildSlice_next h; omega) d
      · omega
    obtain ⟨v', w', E', hrun, hv, ht⟩ := buildSlice_does (P := P) (qs := ps.map fun (i, x) => (i, a.eval x)) h (by simpa using hp1) t1.hr t1.pr hS
    rw [hn1] at ht
    have hd : DoesV P (Instr.buildSlice t n (ps.map fun (i, x) => (i, a.eval x))) E S w v S' := ⟨v', w', E', hrun, hv, t1.trans ht⟩
    refine wp_of_does ?_ hn
    simp only [execOp]
    generalize Instr.buildSlice t n (ps.map fun (i, x) => (i, a.eval x)) = s at hd
    exact Does.ofV hd

theorem sim_load {pol : FuncId → Bool} {rec : RunT} {dst : Option Tmp} {type : TypeId} {pos : String} {after : Array Edge} {guard : Option (Nat × Bool)} {t : TypeId} {p : Operand} {a : Act} {v : AV} (h : (aOp pol P (Op.load t p)).f rec T S = some (v, S'))
    (ho : ∀ y0 ∈ (Op.load t p).operands.toList, ∀ u, ev T y0 = some u → VR E u (a.eval y0)) (hr : HR E S.heap.get w) (pr : PR E w) 
    {next : Act → World → Prop} {Q : Exit → Act → World → Prop}
    (hn : ∀ v' w' E', VR E' v v' → Tran E S.heap.get w S.next E' S'.heap.get w' S'.next → next (a.put dst v') w') : (⟨dst, .load t p, type, pos, after, guard⟩ : Oper).wp P a w next Q := by
  simp only [aOp] at h
  split at h
  · rename_i e he
    simp only [o2_eq, on3_eq, ob_some, Option.some.injEq, Prod.mk.injEq] at h
    obtain ⟨q, hq, u, hu, rfl, rfl⟩ := h
    exact wp_of_does (Does.ofV ((load_does he hu (ho p (by simp [Op.operands]) q hq) hr pr).toV hr pr)) hn
  · cases h

theorem sim_store {pol : FuncId → Bool} {rec : RunT} {dst : Option Tmp} {type : TypeId} {pos : String} {after : Array Edge} {guard : Option (Nat × Bool)} {t : TypeId} {p x : Operand} {a : Act} {v : AV} (h : (aOp pol P (Op.store t p x)).f rec T S = some (v, S'))
    (ho : ∀ y0 ∈ (Op.store t p x).operands.toList, ∀ u, ev T y0 = some u → VR E u (a.eval y0)) (hr : HR E S.heap.get w) (pr : PR E w) 
    {next : Act → World → Prop} {Q : Exit → Act → World → Prop}
    (hn : ∀ v' w' E', VR E' v v' → Tran E S.heap.get w S.next E' S'.heap.get w' S'.next → next (a.put dst v') w') : (⟨dst, .store t p x, type, pos, after, guard⟩ : Oper).wp P a w next Q := by
  simp only [aOp] at h
  split at h
  · rename_i e he
    simp only [o2_eq, on3_eq, ob_some, Option.some.injEq, Prod.mk.injEq] at h
    obtain ⟨q, hq, u, hu, ⟨u', S2⟩, hfz, S1, hS1, rfl, rfl⟩ := h
    obtain ⟨E2, hu2, hn2, t2⟩ := frzT_ok _ E S S2 w u u' _ hfz (ho x (by simp [Op.operands]) u hu) hr pr
    obtain ⟨w', hrun, ht⟩ := store_does (P := P) he hS1 (VR.mono t2.ext _ _ (ho p (by simp [Op.operands]) q hq)) hu2 t2.hr t2.pr
    dsimp only at ht
    rw [hn2] at ht
    exact wp_of_does (Does.unit2 hrun (t2.trans ht)) hn
  · cases h

theorem sim_nilCheck {pol : FuncId → Bool} {rec : RunT} {dst : Option Tmp} {type : TypeId} {pos : String} {after : Array Edge} {guard : Option (Nat × Bool)} {x : Operand} {a : Act} {v : AV} (h : (aOp pol P (Op.nilCheck x)).f rec T S = some (v, S'))
    (ho : ∀ y0 ∈ (Op.nilCheck x).operands.toList, ∀ u, ev T y0 = some u → VR E u (a.eval y0)) (hr : HR E S.heap.get w) (pr : PR E w) 
    {next : Act → World → Prop} {Q : Exit → Act → World → Prop}
    (hn : ∀ v' w' E', VR E' v v' → Tran E S.heap.get w S.next E' S'.heap.get w' S'.next → next (a.put dst v') w') : (⟨dst, .nilCheck x, type, pos, after, guard⟩ : Oper).wp P a w next Q := by
  simp only [aOp, o2_eq, on3_eq, ob_some] at h
  obtain ⟨u, hu, h⟩ := h
  have hx := ho x (by simp [Op.operands]) u hu
  split at h
  · cases h
  · cases h
  · cases h
  · rename_i n1 n2 n3
    cases h
    refine wp_of_does (S' := S) ?_ hn
    have : execOp a.eval ⟨dst, .nilCheck x, type, pos, after, guard⟩ = pure (.value (a.eval x)) := by
      simp only [execOp]
      generalize a.eval x = y at hx
      cases v <;> simp only [VR] at hx
      case nilp => exact absurd rfl n1
      case nilf => exact absurd rfl n3
      case nili => exact absurd rfl n2
      case func => obtain ⟨_, _, rfl, _⟩ := hx; rfl
      case mp => obtain ⟨_, rfl⟩ := hx; rfl
      case pa => obtain ⟨_, rfl, _⟩ := hx; rfl
      case fp => obtain ⟨_, _, rfl, _⟩ := hx; rfl
      case ms => obtain ⟨_, _, rfl, _⟩ := hx; rfl
      case fs => rcases hx with ⟨_, _, _, _, rfl, _⟩ | ⟨_, _, rfl⟩ <;> rfl
      case map => obtain ⟨_, rfl⟩ := hx; rfl
      case iface => obtain ⟨_, rfl, _⟩ := hx; rfl
      case agg => obtain ⟨_, rfl, _⟩ := hx; rfl
      case tup => obtain ⟨_, rfl, _⟩ := hx; rfl
      all_goals (subst hx; rfl)
    rw [this]
    exact Does.val hr pr hx

theorem sim_binOp {pol : FuncId → Bool} {rec : RunT} {dst : Option Tmp} {type : TypeId} {pos : String} {after : Array Edge} {guard : Option (Nat × Bool)} {op : BinOp} {t : TypeId} {x y : Operand} {yt : TypeId} {a : Act} {v : AV} (h : (aOp pol P (Op.binOp op t x y yt)).f rec T S = some (v, S'))
    (ho : ∀ y0 ∈ (Op.binOp op t x y yt).operands.toList, ∀ u, ev T y0 = some u → VR E u (a.eval y0)) (hr : HR E S.heap.get w) (pr : PR E w) 
    {next : Act → World → Prop} {Q : Exit → Act → World → Prop}
    (hn : ∀ v' w' E', VR E' v v' → Tran E S.heap.get w S.next E' S'.heap.get w' S'.next → next (a.put dst v') w') : (⟨dst, .binOp op t x y yt, type, pos, after, guard⟩ : Oper).wp P a w next Q := by
  simp only [aOp, o2_eq, on3_eq, ob_some, Option.some.injEq, Prod.mk.injEq] at h
  obtain ⟨u, hu, u', hu', z, hz, rfl, rfl⟩ := h
  exact wp_of_does (Does.ofV (bin_does hz (ho x (by simp [Op.operands]) u hu) (ho y (by simp [Op.operands]) u' hu') hr pr)) hn

theorem sim_unOp {pol : FuncId → Bool} {rec : RunT} {dst : Option Tmp} {type : TypeId} {pos : String} {after : Array Edge} {guard : Option (Nat × Bool)} {op : UnOp} {t : TypeId} {x : Operand} {a : Act} {v : AV} (h : (aOp pol P (Op.unOp op t x)).f rec T S = some (v, S'))
    (ho : ∀ y0 ∈ (Op.unOp op t x).operands.toList, ∀ u, ev T y0 = some u → VR E u (a.eval y0)) (hr : HR E S.heap.get w) (pr : PR E w) 
    {next : Act → World → Prop} {Q : Exit → Act → World → Prop}
    (hn : ∀ v' w' E', VR E' v v' → Tran E S.heap.get w S.next E' S'.heap.get w' S'.next → next (a.put dst v') w') : (⟨dst, .unOp op t x, type, pos, after, guard⟩ : Oper).wp P a w next Q := by
  simp only [aOp, o2_eq, on3_eq, ob_some, Option.some.injEq, Prod.mk.injEq] at h
  obtain ⟨u, hu, z, hz, rfl, rfl⟩ := h
  exact wp_of_does (Does.ofV (un_does hz (ho x (by simp [Op.operands]) u hu) hr pr)) hn

theorem sim_convert {pol : FuncId → Bool} {rec : RunT} {dst : Option Tmp} {type : TypeId} {pos : String} {after : Array Edge} {guard : Option (Nat × Bool)} {s d : TypeId} {x : Operand} {a : Act} {v : AV} (h : (aOp pol P (Op.convert s d x)).f rec T S = some (v, S'))
    (ho : ∀ y0 ∈ (Op.convert s d x).operands.toList, ∀ u, ev T y0 = some u → VR E u (a.eval y0)) (hr : HR E S.heap.get w) (pr : PR E w) 
    {next : Act → World → Prop} {Q : Exit → Act → World → Prop}
    (hn : ∀ v' w' E', VR E' v v' → Tran E S.heap.get w S.next E' S'.heap.get w' S'.next → next (a.put dst v') w') : (⟨dst, .convert s d x, type, pos, after, guard⟩ : Oper).wp P a w next Q := by
  simp only [aOp, o2_eq, on3_eq, ob_some, Option.some.injEq, Prod.mk.injEq] at h
  obtain ⟨u, hu, z, hz, rfl, rfl⟩ := h
  exact wp_of_does (Does.ofV ((conv_does hz (ho x (by simp [Op.operands]) u hu) hr pr).toV hr pr)) hn

theorem sim_makeInterface {pol : FuncId → Bool} {rec : RunT} {dst : Option Tmp} {type : TypeId} {pos : String} {after : Array Edge} {guard : Option (Nat × Bool)} {t : TypeId} {x : Operand} {a : Act} {v : AV} (h : (aOp pol P (Op.makeInterface t x)).f rec T S = some (v, S'))
    (ho : ∀ y0 ∈ (Op.makeInterface t x).operands.toList, ∀ u, ev T y0 = some u → VR E u (a.eval y0)) (hr : HR E S.heap.get w) (pr : PR E w) 
    {next : Act → World → Prop} {Q : Exit → Act → World → Prop}
    (hn : ∀ v' w' E', VR E' v v' → Tran E S.heap.get w S.next E' S'.heap.get w' S'.next → next (a.put dst v') w') : (⟨dst, .makeInterface t x, type, pos, after, guard⟩ : Oper).wp P a w next Q := by
  simp only [aOp, o2_eq, on3_eq, ob_some] at h
  obtain ⟨e, he, u, hu, h⟩ := h
  have hx := ho x (by simp [Op.operands]) u hu
  split at h
  · cases h
  · rename_i hi
    cases h
    refine wp_of_does (Does.ofV (DoesV.same hr pr (v' := .iface t (a.eval x)) ?_ (by simp only [VR]; exact ⟨_, rfl, hx⟩))) hn
    rw [Instr.makeInterface, Sem.run_bind, r_und he]
    simp only [Result.andThen_ok]
    cases hd : e.und <;> first | rfl | exact absurd hd (hi _)

theorem sim_makeFunc {pol : FuncId → Bool} {rec : RunT} {dst : Option Tmp} {type : TypeId} {pos : String} {after : Array Edge} {guard : Option (Nat × Bool)} {fn : Fn} {f c : Array Operand} {a : Act} {v : AV} (h : (aOp pol P (Op.makeFunc fn f c)).f rec T S = some (v, S'))
    (ho : ∀ y0 ∈ (Op.makeFunc fn f c).operands.toList, ∀ u, ev T y0 = some u → VR E u (a.eval y0)) (hr : HR E S.heap.get w) (pr : PR E w) 
    {next : Act → World → Prop} {Q : Exit → Act → World → Prop}
    (hn : ∀ v' w' E', VR E' v v' → Tran E S.heap.get w S.next E' S'.heap.get w' S'.next → next (a.put dst v') w') : (⟨dst, .makeFunc fn f c, type, pos, after, guard⟩ : Oper).wp P a w next Q := by
  simp only [aOp] at h
  split at h
  · rename_i g
    simp only [o2_eq, on3_eq, ob_some, Option.some.injEq, Prod.mk.injEq] at h
    obtain ⟨f', hf, c', hc, rfl, rfl⟩ := h
    have h1 := evs_rel (ρ := a.eval) hf (fun x hx => ho x (by simp [Op.operands]; exact .inl (by simpa using hx)))
    have h2 := evs_rel (ρ := a.eval) hc (fun x hx => ho x (by simp [Op.operands]; exact .inr (by simpa using hx)))
    refine wp_of_does (Does.ofV (DoesV.same hr pr (v' := .func (.func g) (f.map a.eval) (c.map a.eval)) rfl ?_)) hn
    simp only [VR]
    exact ⟨_, _, rfl, ⟨by simpa using h1.1, by simpa using h1.2⟩, by simpa using h2.1, by simpa using h2.2⟩
  · cases h

theorem sim_makeMap {pol : FuncId → Bool} {rec : RunT} {dst : Option Tmp} {type : TypeId} {pos : String} {after : Array Edge} {guard : Option (Nat × Bool)} {t : TypeId} {r : Option Operand} {a : Act} {v : AV} (h : (aOp pol P (Op.makeMap t r)).f rec T S = some (v, S'))
    (ho : ∀ y0 ∈ (Op.makeMap t r).operands.toList, ∀ u, ev T y0 = some u → VR E u (a.eval y0)) (hr : HR E S.heap.get w) (pr : PR E w) (fresh : ∀ n, S.next ≤ n → n < S'.next → ¬ E.dom n)
    {next : Act → World → Prop} {Q : Exit → Act → World → Prop}
    (hn : ∀ v' w' E', VR E' v v' → Tran E S.heap.get w S.next E' S'.heap.get w' S'.next → next (a.put dst v') w') : (⟨dst, .makeMap t r, type, pos, after, guard⟩ : Oper).wp P a w next Q := by
  simp only [aOp, o2_eq, on3_eq, ob_some, chk_some, Option.some.injEq, Prod.mk.injEq] at h
  obtain ⟨_, hrn, rfl, rfl⟩ := h
  obtain rfl : r = none := by cases r <;> simp_all
  have hS := fresh _ (Nat.le_refl _) (Nat.lt_succ_self _)
  obtain ⟨a1, a2, a3, a4⟩ := add_self E S.next w.heap.size 0 0
  refine wp_of_does (Does.ofV ⟨.map (some w.heap.size), { w with heap := w.heap.push (.map #[] 0) }, E.add S.next w.heap.size 0 0, ?_, ?_, newB_does (o := .map #[] 0) hr pr hS (by simp only [BR]; exact ⟨#[], rfl, by simp [MR]⟩) rfl ⟨rfl, rfl, rfl⟩⟩) hn
  · simp [Instr.makeMap]
  · simp only [VR]; exact ⟨a1, by rw [a2]⟩

theorem sim_makeSlice {pol : FuncId → Bool} {rec : RunT} {dst : Option Tmp} {type : TypeId} {pos : String} {after : Array Edge} {guard : Option (Nat × Bool)} {t : TypeId} {l c : Operand} {a : Act} {v : AV} (h : (aOp pol P (Op.makeSlice t l c)).f rec T S = some (v, S'))
    (ho : ∀ y0 ∈ (Op.makeSlice t l c).operands.toList, ∀ u, ev T y0 = some u → VR E u (a.eval y0)) (hr : HR E S.heap.get w) (pr : PR E w) (fresh : ∀ n, S.next ≤ n → n < S'.next → ¬ E.dom n)
    {next : Act → World → Prop} {Q : Exit → Act → World → Prop}
    (hn : ∀ v' w' E', VR E' v v' → Tran E S.heap.get w S.next E' S'.heap.get w' S'.next → next (a.put dst v') w') : (⟨dst, .makeSlice t l c, type, pos, after, guard⟩ : Oper).wp P a w next Q := by
  simp only [aOp, o2_eq, on3_eq, ob_some] at h
  obtain ⟨u, hu, u', hu', h⟩ := h
  have hS : ¬ E.dom S.next := fresh _ (Nat.le_refl _) (makeSlice_next h)
  exact wp_of_does (Does.ofV (makeSlice_does h (ho l (by simp [Op.operands]) u hu) (ho c (by simp [Op.operands]) u' hu') hr pr hS)) hn

theorem sim_slice {pol : FuncId → Bool} {rec : RunT} {dst : Option Tmp} {type : TypeId} {pos : String} {after : Array Edge} {guard : Option (Nat × Bool)} {t : TypeId} {x : Operand} {lo hi mx : Option Operand} {a : Act} {v : AV} (h : (aOp pol P (Op.slice t x lo hi mx)).f rec T S = some (v, S'))
    (ho : ∀ y0 ∈ (Op.slice t x lo hi mx).operands.toList, ∀ u, ev T y0 = some u → VR E u (a.eval y0)) (hr : HR E S.heap.get w) (pr : PR E w) 
    {next : Act → World → Prop} {Q : Exit → Act → World → Prop}
    (hn : ∀ v' w' E', VR E' v v' → Tran E S.heap.get w S.next E' S'.heap.get w' S'.next → next (a.put dst v') w') : (⟨dst, .slice t x lo hi mx, type, pos, after, guard⟩ : Oper).wp P a w next Q := by
  simp only [aOp, o2_eq, on3_eq, ob_some, Option.some.injEq, Prod.mk.injEq] at h
  obtain ⟨u, hu, z, hz, rfl, rfl⟩ := h
  cases hb : allN lo hi mx with
  | true =>
    unfold sliceX at hz
    rw [hb, cond_true] at hz
    simp only [allN, Bool.and_eq_true, Option.isNone_iff_eq_none] at hb
    obtain ⟨rfl, rfl, rfl⟩ := hb
    exact wp_of_does (Does.ofV (sliceW_does hz (ho x (by simp [Op.operands]) u hu) hr pr)) hn
  | false =>
  unfold sliceX at hz
  rw [hb, cond_false] at hz
  refine wp_of_does (Does.ofV (slice_does (ρ := a.eval) hz (ho x (by simp [Op.operands]) u hu) (fun y hy => ho y ?_) hr pr)) hn
  rcases hy with rfl | rfl | rfl <;> simp [Op.operands]

theorem sim_fieldAddr {pol : FuncId → Bool} {rec : RunT} {dst : Option Tmp} {type : TypeId} {pos : String} {after : Array Edge} {guard : Option (Nat × Bool)} {s : TypeId} {x : Operand} {f : Nat} {a : Act} {v : AV} (h : (aOp pol P (Op.fieldAddr s x f)).f rec T S = some (v, S'))
    (ho : ∀ y0 ∈ (Op.fieldAddr s x f).operands.toList, ∀ u, ev T y0 = some u → VR E u (a.eval y0)) (hr : HR E S.heap.get w) (pr : PR E w) 
    {next : Act → World → Prop} {Q : Exit → Act → World → Prop}
    (hn : ∀ v' w' E', VR E' v v' → Tran E S.heap.get w S.next E' S'.heap.get w' S'.next → next (a.put dst v') w') : (⟨dst, .fieldAddr s x f, type, pos, after, guard⟩ : Oper).wp P a w next Q := by
  simp only [aOp, o2_eq, on3_eq, ob_some, Option.some.injEq, Prod.mk.injEq] at h
  obtain ⟨u, hu, z, hz, rfl, rfl⟩ := h
  exact wp_of_does (Does.ofV (fieldAddr_does hz (ho x (by simp [Op.operands]) u hu) hr pr)) hn

theorem sim_field {pol : FuncId → Bool} {rec : RunT} {dst : Option Tmp} {type : TypeId} {pos : String} {after : Array Edge} {guard : Option (Nat × Bool)} {s : TypeId} {x : Operand} {f : Nat} {a : Act} {v : AV} (h : (aOp pol P (Op.field s x f)).f rec T S = some (v, S'))
    (ho : ∀ y0 ∈ (Op.field s x f).operands.toList, ∀ u, ev T y0 = some u → VR E u (a.eval y0)) (hr : HR E S.heap.get w) (pr : PR E w) 
    {next : Act → World → Prop} {Q : Exit → Act → World → Prop}
    (hn : ∀ v' w' E', VR E' v v' → Tran E S.heap.get w S.next E' S'.heap.get w' S'.next → next (a.put dst v') w') : (⟨dst, .field s x f, type, pos, after, guard⟩ : Oper).wp P a w next Q := by
  simp only [aOp, o2_eq, on3_eq, ob_some, Option.some.injEq, Prod.mk.injEq] at h
  obtain ⟨u, hu, z, hz, rfl, rfl⟩ := h
  exact wp_of_does (Does.ofV (field_does hz (ho x (by simp [Op.operands]) u hu) hr pr)) hn

theorem sim_indexAddr {pol : FuncId → Bool} {rec : RunT} {dst : Option Tmp} {type : TypeId} {pos : String} {after : Array Edge} {guard : Option (Nat × Bool)} {t : TypeId} {x i : Operand} {a : Act} {v : AV} (h : (aOp pol P (Op.indexAddr t x i)).f rec T S = some (v, S'))
    (ho : ∀ y0 ∈ (Op.indexAddr t x i).operands.toList, ∀ u, ev T y0 = some u → VR E u (a.eval y0)) (hr : HR E S.heap.get w) (pr : PR E w) 
    {next : Act → World → Prop} {Q : Exit → Act → World → Prop}
    (hn : ∀ v' w' E', VR E' v v' → Tran E S.heap.get w S.next E' S'.heap.get w' S'.next → next (a.put dst v') w') : (⟨dst, .indexAddr t x i, type, pos, after, guard⟩ : Oper).wp P a w next Q := by
  simp only [aOp, o2_eq, on3_eq, ob_some, Option.some.injEq, Prod.mk.injEq] at h
  obtain ⟨u, hu, u', hu', z, hz, rfl, rfl⟩ := h
  exact wp_of_does (Does.ofV (indexAddr_does hz (ho x (by simp [Op.operands]) u hu) (ho i (by simp [Op.operands]) u' hu') hr pr)) hn

theorem sim_index {pol : FuncId → Bool} {rec : RunT} {dst : Option Tmp} {type : TypeId} {pos : String} {after : Array Edge} {guard : Option (Nat × Bool)} {t : TypeId} {x i : Operand} {a : Act} {v : AV} (h : (aOp pol P (Op.index t x i)).f rec T S = some (v, S'))
    (ho : ∀ y0 ∈ (Op.index t x i).operands.toList, ∀ u, ev T y0 = some u → VR E u (a.eval y0)) (hr : HR E S.heap.get w) (pr : PR E w) 
    {next : Act → World → Prop} {Q : Exit → Act → World → Prop}
    (hn : ∀ v' w' E', VR E' v v' → Tran E S.heap.get w S.next E' S'.heap.get w' S'.next → next (a.put dst v') w') : (⟨dst, .index t x i, type, pos, after, guard⟩ : Oper).wp P a w next Q := by
  simp only [aOp, o2_eq, on3_eq, ob_some, Option.some.injEq, Prod.mk.injEq] at h
  obtain ⟨u, hu, u', hu', z, hz, rfl, rfl⟩ := h
  exact wp_of_does (Does.ofV (index_does hz (ho x (by simp [Op.operands]) u hu) (ho i (by simp [Op.operands]) u' hu') hr pr)) hn

theorem sim_lookup {pol : FuncId → Bool} {rec : RunT} {dst : Option Tmp} {type : TypeId} {pos : String} {after : Array Edge} {guard : Option (Nat × Bool)} {t : TypeId} {x i : Operand} {ok : Bool} {a : Act} {v : AV} (h : (aOp pol P (Op.lookup t x i ok)).f rec T S = some (v, S'))
    (ho : ∀ y0 ∈ (Op.lookup t x i ok).operands.toList, ∀ u, ev T y0 = some u → VR E u (a.eval y0)) (hr : HR E S.heap.get w) (pr : PR E w) 
    {next : Act → World → Prop} {Q : Exit → Act → World → Prop}
    (hn : ∀ v' w' E', VR E' v v' → Tran E S.heap.get w S.next E' S'.heap.get w' S'.next → next (a.put dst v') w') : (⟨dst, .lookup t x i ok, type, pos, after, guard⟩ : Oper).wp P a w next Q := by
  simp only [aOp, o2_eq, on3_eq, ob_some, Option.some.injEq, Prod.mk.injEq] at h
  obtain ⟨u, hu, u', hu', z, hz, rfl, rfl⟩ := h
  exact wp_of_does (Does.ofV ((lookup_does hz (ho x (by simp [Op.operands]) u hu) (ho i (by simp [Op.operands]) u' hu') hr pr).toV hr pr)) hn

theorem sim_mapUpdate {pol : FuncId → Bool} {rec : RunT} {dst : Option Tmp} {type : TypeId} {pos : String} {after : Array Edge} {guard : Option (Nat × Bool)} {t : TypeId} {m k x : Operand} {a : Act} {v : AV} (h : (aOp pol P (Op.mapUpdate t m k x)).f rec T S = some (v, S'))
    (ho : ∀ y0 ∈ (Op.mapUpdate t m k x).operands.toList, ∀ u, ev T y0 = some u → VR E u (a.eval y0)) (hr : HR E S.heap.get w) (pr : PR E w) 
    {next : Act → World → Prop} {Q : Exit → Act → World → Prop}
    (hn : ∀ v' w' E', VR E' v v' → Tran E S.heap.get w S.next E' S'.heap.get w' S'.next → next (a.put dst v') w') : (⟨dst, .mapUpdate t m k x, type, pos, after, guard⟩ : Oper).wp P a w next Q := by
  simp only [aOp, o2_eq, on3_eq, ob_some, Option.some.injEq, Prod.mk.injEq] at h
  obtain ⟨u, hu, u', hu', u'', hu'', S1, hS1, rfl, rfl⟩ := h
  obtain ⟨w', hrun, ht⟩ := mapUpd_does (P := P) hS1 (ho m (by simp [Op.operands]) u hu) (ho k (by simp [Op.operands]) u' hu') (ho x (by simp [Op.operands]) u'' hu'') hr pr
  exact wp_of_does (Does.unit hrun ht) hn

theorem sim_mapEntry {pol : FuncId → Bool} {rec : RunT} {dst : Option Tmp} {type : TypeId} {pos : String} {after : Array Edge} {guard : Option (Nat × Bool)} {t : TypeId} {m k : Operand} {a : Act} {v : AV} (h : (aOp pol P (Op.mapEntry t m k)).f rec T S = some (v, S'))
    (ho : ∀ y0 ∈ (Op.mapEntry t m k).operands.toList, ∀ u, ev T y0 = some u → VR E u (a.eval y0)) (hr : HR E S.heap.get w) (pr : PR E w) 
    {next : Act → World → Prop} {Q : Exit → Act → World → Prop}
    (hn : ∀ v' w' E', VR E' v v' → Tran E S.heap.get w S.next E' S'.heap.get w' S'.next → next (a.put dst v') w') : (⟨dst, .mapEntry t m k, type, pos, after, guard⟩ : Oper).wp P a w next Q := by
  simp only [aOp, o2_eq, on3_eq, ob_some] at h
  obtain ⟨u, hu, u', hu', h⟩ := h
  exact wp_of_does (Does.ofV (mapEnt_does h (ho m (by simp [Op.operands]) u hu) (ho k (by simp [Op.operands]) u' hu') hr pr)) hn

theorem sim_entryStore {pol : FuncId → Bool} {rec : RunT} {dst : Option Tmp} {type : TypeId} {pos : String} {after : Array Edge} {guard : Option (Nat × Bool)} {t : TypeId} {m s x : Operand} {a : Act} {v : AV} (h : (aOp pol P (Op.entryStore t m s x)).f rec T S = some (v, S'))
    (ho : ∀ y0 ∈ (Op.entryStore t m s x).operands.toList, ∀ u, ev T y0 = some u → VR E u (a.eval y0)) (hr : HR E S.heap.get w) (pr : PR E w) 
    {next : Act → World → Prop} {Q : Exit → Act → World → Prop}
    (hn : ∀ v' w' E', VR E' v v' → Tran E S.heap.get w S.next E' S'.heap.get w' S'.next → next (a.put dst v') w') : (⟨dst, .entryStore t m s x, type, pos, after, guard⟩ : Oper).wp P a w next Q := by
  simp only [aOp, o2_eq, on3_eq, ob_some, Option.some.injEq, Prod.mk.injEq] at h
  obtain ⟨u, hu, u', hu', u'', hu'', S1, hS1, rfl, rfl⟩ := h
  obtain ⟨w', hrun, ht⟩ := entSt_does (P := P) (t := t) hS1 (ho m (by simp [Op.operands]) u hu) (ho s (by simp [Op.operands]) u' hu') (ho x (by simp [Op.operands]) u'' hu'') hr pr
  exact wp_of_does (Does.unit hrun ht) hn

theorem sim_insert {pol : FuncId → Bool} {rec : RunT} {dst : Option Tmp} {type : TypeId} {pos : String} {after : Array Edge} {guard : Option (Nat × Bool)} {t : TypeId} {m k x : Operand} {a : Act} {v : AV} (h : (aOp pol P (Op.insert t m k x)).f rec T S = some (v, S'))
    (ho : ∀ y0 ∈ (Op.insert t m k x).operands.toList, ∀ u, ev T y0 = some u → VR E u (a.eval y0)) (hr : HR E S.heap.get w) (pr : PR E w) 
    {next : Act → World → Prop} {Q : Exit → Act → World → Prop}
    (hn : ∀ v' w' E', VR E' v v' → Tran E S.heap.get w S.next E' S'.heap.get w' S'.next → next (a.put dst v') w') : (⟨dst, .insert t m k x, type, pos, after, guard⟩ : Oper).wp P a w next Q := by
  simp only [aOp, o2_eq, on3_eq, ob_some, Option.some.injEq, Prod.mk.injEq] at h
  obtain ⟨u, hu, u', hu', u'', hu'', S1, hS1, rfl, rfl⟩ := h
  obtain ⟨w', hrun, ht⟩ := mapUpd_does (P := P) hS1 (ho m (by simp [Op.operands]) u hu) (ho k (by simp [Op.operands]) u' hu') (ho x (by simp [Op.operands]) u'' hu'') hr pr
  exact wp_of_does (Does.unit hrun ht) hn

theorem sim_range {pol : FuncId → Bool} {rec : RunT} {dst : Option Tmp} {type : TypeId} {pos : String} {after : Array Edge} {guard : Option (Nat × Bool)} {t : TypeId} {x : Operand} {a : Act} {v : AV} (h : (aOp pol P (Op.range t x)).f rec T S = some (v, S'))
    (ho : ∀ y0 ∈ (Op.range t x).operands.toList, ∀ u, ev T y0 = some u → VR E u (a.eval y0)) (hr : HR E S.heap.get w) (pr : PR E w) (fresh : ∀ n, S.next ≤ n → n < S'.next → ¬ E.dom n)
    {next : Act → World → Prop} {Q : Exit → Act → World → Prop}
    (hn : ∀ v' w' E', VR E' v v' → Tran E S.heap.get w S.next E' S'.heap.get w' S'.next → next (a.put dst v') w') : (⟨dst, .range t x, type, pos, after, guard⟩ : Oper).wp P a w next Q := by
  simp only [aOp, o2_eq, on3_eq, ob_some] at h
  obtain ⟨u, hu, h⟩ := h
  have hS : ¬ E.dom S.next := fresh _ (Nat.le_refl _) (by
    unfold rangeA at h
    simp only [o2_eq, on3_eq, ob_some] at h
    obtain ⟨e, _, h⟩ := h
    split at h
    · cases h; exact Nat.lt_succ_self _
    · simp only [o2_eq, on3_eq, ob_some, Option.some.injEq, Prod.mk.injEq] at h
      obtain ⟨_, _, _, rfl⟩ := h; exact Nat.lt_succ_self _
    · cases h)
  exact wp_of_does (Does.ofV (range_does h (ho x (by simp [Op.operands]) u hu) hr pr hS)) hn

theorem sim_entry {pol : FuncId → Bool} {rec : RunT} {dst : Option Tmp} {type : TypeId} {pos : String} {after : Array Edge} {guard : Option (Nat × Bool)} {x : Operand} {a : Act} {v : AV} (h : (aOp pol P (Op.entry x)).f rec T S = some (v, S'))
    (ho : ∀ y0 ∈ (Op.entry x).operands.toList, ∀ u, ev T y0 = some u → VR E u (a.eval y0)) (hr : HR E S.heap.get w) (pr : PR E w) 
    {next : Act → World → Prop} {Q : Exit → Act → World → Prop}
    (hn : ∀ v' w' E', VR E' v v' → Tran E S.heap.get w S.next E' S'.heap.get w' S'.next → next (a.put dst v') w') : (⟨dst, .entry x, type, pos, after, guard⟩ : Oper).wp P a w next Q := by
  simp only [aOp, o2_eq, on3_eq, ob_some, Option.some.injEq, Prod.mk.injEq] at h
  obtain ⟨u, hu, z, hz, rfl, rfl⟩ := h
  exact wp_of_does (Does.ofV (entry_does hz (ho x (by simp [Op.operands]) u hu) hr pr)) hn

theorem sim_extract {pol : FuncId → Bool} {rec : RunT} {dst : Option Tmp} {type : TypeId} {pos : String} {after : Array Edge} {guard : Option (Nat × Bool)} {t : Operand} {i : Nat} {a : Act} {v : AV} (h : (aOp pol P (Op.extract t i)).f rec T S = some (v, S'))
    (ho : ∀ y0 ∈ (Op.extract t i).operands.toList, ∀ u, ev T y0 = some u → VR E u (a.eval y0)) (hr : HR E S.heap.get w) (pr : PR E w) 
    {next : Act → World → Prop} {Q : Exit → Act → World → Prop}
    (hn : ∀ v' w' E', VR E' v v' → Tran E S.heap.get w S.next E' S'.heap.get w' S'.next → next (a.put dst v') w') : (⟨dst, .extract t i, type, pos, after, guard⟩ : Oper).wp P a w next Q := by
  simp only [aOp, o2_eq, on3_eq, ob_some] at h
  obtain ⟨u, hu, h⟩ := h
  have hx := ho t (by simp [Op.operands]) u hu
  split at h
  · rename_i vs
    simp only [o2_eq, on3_eq, ob_some, Option.some.injEq, Prod.mk.injEq] at h
    obtain ⟨z, hz, rfl, rfl⟩ := h
    simp only [VR] at hx
    obtain ⟨arr, he, hv, _⟩ := hx
    obtain ⟨y, hy, hzy⟩ := hv.get hz
    have hy' : arr[i]? = some y := by simpa using hy
    exact wp_of_does (Does.ofV (DoesV.same hr pr (v' := y) (by simp [Instr.extract, he, hy']) hzy)) hn
  · cases h

theorem sim_call {pol : FuncId → Bool} {rec : RunT} (hx : MxOk P) (hP : NoNum P) (hrec : RecOk P rec) {dst : Option Tmp} {type : TypeId} {pos : String} {after : Array Edge} {guard : Option (Nat × Bool)} {c : Call} {a : Act} {v : AV} (h : (aOp pol P (Op.call c)).f rec T S = some (v, S'))
    (ho : ∀ y0 ∈ (Op.call c).operands.toList, ∀ u, ev T y0 = some u → VR E u (a.eval y0)) (hr : HR E S.heap.get w) (pr : PR E w) (fresh : ∀ n, S.next ≤ n → n < S'.next → ¬ E.dom n)
    {next : Act → World → Prop} {Q : Exit → Act → World → Prop}
    (hn : ∀ v' w' E', VR E' v v' → Tran E S.heap.get w S.next E' S'.heap.get w' S'.next → next (a.put dst v') w') : (⟨dst, .call c, type, pos, after, guard⟩ : Oper).wp P a w next Q := by
  have hargs : ∀ args, evs T c.args.toList = some args → VRP E args (c.args.map a.eval).toList ∧ args.length = (c.args.map a.eval).size := by
    intro args hargs
    have := evs_rel (ρ := a.eval) hargs (fun x hx => ho x (by simp only [Op.operands, Call.operands]; simp; exact .inr (by simpa using hx)))
    exact ⟨by simpa using this.1, by simpa using this.2⟩
  simp only [aOp] at h
  split at h
  · rename_i b hcal
    simp only [o2_eq, on3_eq, ob_some] at h
    obtain ⟨args, hevs, h⟩ := h
    obtain ⟨hv, hl⟩ := hargs args hevs
    have hex : ∀ s : Sem Value, builtin b c.argTypes type (c.args.map fun | .const _ => true | _ => false) (c.args.map a.eval) = (do pure (.value (← s))) → DoesV P s E S w v S' →
        Does P (execOp a.eval ⟨dst, .call c, type, pos, after, guard⟩) E S w v S' := by
      intro s hs hd
      have : execOp a.eval ⟨dst, .call c, type, pos, after, guard⟩ = (do pure (.value (← s))) := by
        simp only [execOp, resolve, hcal, pure_bind, invoke]
        exact hs
      rw [this]
      exact Does.ofV hd
    generalize hvals : c.args.map a.eval = vals at hv hl hex
    unfold builtinA at h
    split at h
    · rename_i x t ts hts
      simp only [o2_eq, on3_eq, ob_some, Option.some.injEq, Prod.mk.injEq] at h
      obtain ⟨z, hz, rfl, rfl⟩ := h
      have hva : ∃ u, vals = #[u] ∧ VR E x u := by
        match hvl : vals.toList, hv with
        | [], hv => simp only [VRP] at hv
        | u :: us, hv =>
          rw [VRP.cons_iff] at hv
          have : us = [] := by
            have h2 : vals.toList.length = 1 := by simpa using hl.symm
            rw [hvl] at h2; simpa using h2
          subst this
          exact ⟨u, by apply Array.toList_inj.1; simpa using hvl, hv.1⟩
      obtain ⟨u, rfl, hxu⟩ := hva
      have ht0 : c.argTypes[0]? = some t := by
        rw [← Array.getElem?_toList, hts]; rfl
      exact wp_of_does (hex _ rfl ((len_does type ht0 hz hxu hr pr).toV hr pr)) hn
    · rename_i x y t u' hts
      simp only [o2_eq, on3_eq, ob_some] at h
      obtain ⟨ue, hue, h⟩ := h
      split at h
      · cases h
      · rename_i hni
        have hva : ∃ p q, vals = #[p, q] ∧ VR E x p ∧ VR E y q := by
          match hvl : vals.toList, hv with
          | [], hv => simp only [VRP] at hv
          | [_], hv => simp only [VRP] at hv; exact absurd hv.2 (by simp)
          | p :: q :: us, hv =>
            rw [VRP.cons_iff, VRP.cons_iff] at hv
            have : us = [] := by
              have h2 : vals.toList.length = 2 := by simpa using hl.symm
              rw [hvl] at h2; simpa using h2
            subst this
            exact ⟨p, q, by apply Array.toList_inj.1; simpa using hvl, hv.1, hv.2.1⟩
        obtain ⟨p, q, rfl, hxp, hyq⟩ := hva
        have hat : c.argTypes = #[t, u'] := by apply Array.toList_inj.1; simpa using hts
        rw [hat] at hex
        exact wp_of_does (hex _ rfl (append_does type hue (fun k hk => hni k hk) h hxp hyq hr pr fresh)) hn
    · rename_i x y t u' hts
      have hva : ∃ p q, vals = #[p, q] ∧ VR E x p ∧ VR E y q := by
        match hvl : vals.toList, hv with
        | [], hv => simp only [VRP] at hv
        | [_], hv => simp only [VRP] at hv; exact absurd hv.2 (by simp)
        | p :: q :: us, hv =>
          rw [VRP.cons_iff, VRP.cons_iff] at hv
          have : us = [] := by
            have h2 : vals.toList.length = 2 := by simpa using hl.symm
            rw [hvl] at h2; simpa using h2
          subst this
          exact ⟨p, q, by apply Array.toList_inj.1; simpa using hvl, hv.1, hv.2.1⟩
      obtain ⟨p, q, rfl, hxp, hyq⟩ := hva
      have hat : c.argTypes = #[t, u'] := by apply Array.toList_inj.1; simpa using hts
      rw [hat] at hex
      exact wp_of_does (hex _ rfl (copy_does type h hxp hyq hr pr)) hn
    · rename_i x
      simp only [o2_eq, on3_eq, ob_some, Option.some.injEq, Prod.mk.injEq] at h
      obtain ⟨z, hz, rfl, rfl⟩ := h
      have hva : ∃ u, vals = #[u] ∧ VR E x u := by
        match hvl : vals.toList, hv with
        | [], hv => simp only [VRP] at hv
        | u :: us, hv =>
          rw [VRP.cons_iff] at hv
          have : us = [] := by
            have h2 : vals.toList.length = 1 := by simpa using hl.symm
            rw [hvl] at h2; simpa using h2
          subst this
          exact ⟨u, by apply Array.toList_inj.1; simpa using hvl, hv.1⟩
      obtain ⟨u, rfl, hxu⟩ := hva
      exact wp_of_does (hex _ rfl (data_does c.argTypes type hz hxu hr pr)) hn
    · rename_i x y t u' hts
      have hva : ∃ p q, vals = #[p, q] ∧ VR E x p ∧ VR E y q := by
        match hvl : vals.toList, hv with
        | [], hv => simp only [VRP] at hv
        | [_], hv => simp only [VRP] at hv; exact absurd hv.2 (by simp)
        | p :: q :: us, hv =>
          rw [VRP.cons_iff, VRP.cons_iff] at hv
          have : us = [] := by
            have h2 : vals.toList.length = 2 := by simpa using hl.symm
            rw [hvl] at h2; simpa using h2
          subst this
          exact ⟨p, q, by apply Array.toList_inj.1; simpa using hvl, hv.1, hv.2.1⟩
      obtain ⟨p, q, rfl, hxp, hyq⟩ := hva
      have hat : c.argTypes = #[t, u'] := by apply Array.toList_inj.1; simpa using hts
      rw [hat] at hex
      exact wp_of_does (hex _ rfl (ustr_does h hxp hyq hr pr)) hn
    · rename_i l ts
      simp only [o2_eq, on3_eq, ob_some, Option.some.injEq, Prod.mk.injEq] at h
      obtain ⟨z, hz, rfl, rfl⟩ := h
      unfold maxA at hz
      split at hz
      · rename_i k n r
        match hvl : vals.toList, hv with
        | [], hv => simp only [VRP] at hv
        | u :: us, hv =>
          rw [VRP.cons_iff] at hv
          simp only [VR] at hv
          obtain ⟨rfl, hv⟩ := hv
          have hl2 : r.length = us.length := by
            have h2 : vals.toList.length = r.length + 1 := by simpa using hl.symm
            rw [hvl] at h2; simpa using h2.symm
          obtain ⟨y, hy, hzy⟩ := max_rel (P := P) (w := w) hz hv hl2
          exact wp_of_does (hex (Builtin.max_ c.argTypes type vals) rfl (DoesV.same hr pr (by simp only [Builtin.max_, hvl]; exact hy) hzy)) hn
      · cases hz
    · rename_i l ts
      simp only [o2_eq, on3_eq, ob_some, Option.some.injEq, Prod.mk.injEq] at h
      obtain ⟨z, hz, rfl, rfl⟩ := h
      unfold minA at hz
      split at hz
      · rename_i k n r
        match hvl : vals.toList, hv with
        | [], hv => simp only [VRP] at hv
        | u :: us, hv =>
          rw [VRP.cons_iff] at hv
          simp only [VR] at hv
          obtain ⟨rfl, hv⟩ := hv
          have hl2 : r.length = us.length := by
            have h2 : vals.toList.length = r.length + 1 := by simpa using hl.symm
            rw [hvl] at h2; simpa using h2.symm
          obtain ⟨y, hy, hzy⟩ := min_rel (P := P) (w := w) hz hv hl2
          exact wp_of_does (hex (Builtin.min_ c.argTypes type vals) rfl (DoesV.same hr pr (by simp only [Builtin.min_, hvl]; exact hy) hzy)) hn
      · cases hz
    · cases h
  · rename_i f hcal
    simp only [o2_eq, on3_eq, ob_some] at h
    obtain ⟨args, hevs, fv, hfv, h⟩ := h
    obtain ⟨hv, hl⟩ := hargs args hevs
    have hfr := ho f (by simp [Op.operands, Call.operands, hcal]) fv hfv
    split at h
    · rename_i g first cap
      simp only [VR] at hfr
      obtain ⟨a', c', he, ⟨f1, f2⟩, f3, f4⟩ := hfr
      have hav : VRP E (first ++ args ++ cap) (a' ++ c.args.map a.eval ++ c').toList := by
        rw [Array.toList_append, Array.toList_append]
        exact VRP.append (VRP.append f1 (by simpa using f2) hv) (by simp at hl ⊢; omega) f3
      have hal : (first ++ args ++ cap).length = (a' ++ c.args.map a.eval ++ c').size := by simp at hl ⊢; omega
      simp only [o2_eq, on3_eq, ob_some] at h
      obtain ⟨⟨args', S1⟩, hz, h⟩ := h
      dsimp only at h
      obtain ⟨E1, hav1, hal1, hn1, t1⟩ := fzArgs_ok hz hav hr pr
      cases hex : Mx.ex g args' with
      | some q =>
        unfold callA at h
        rw [hex] at h
        cases h
        obtain ⟨u, hqu, hrun⟩ := hx.externs g args' _ hex E1 _ hav1 (hal1.trans hal)
        refine wp_of_does ⟨.value u, u, w, E1, ?_, .inl rfl, hqu, ?_⟩ hn
        · simp only [execOp, resolve, hcal, he, Deferred.ofValue, pure_bind, invoke]
          rw [hrun]
        · rw [hn1]; exact t1
      | none =>
      have h : callB pol P rec g args' S1 = some (v, S') := by unfold callA at h; rw [hex] at h; exact h
      cases hsw : Mx.sw g with
      | true =>
        have h' : swapA P args' S1 = some (v, S') := by unfold callB at h; rw [hsw, cond_true] at h; exact h
        obtain ⟨gS, hx1⟩ := hx.swaps g hsw
        obtain ⟨rfl, w', hrun, ht⟩ := swap_does h' hav1 (hal1.trans hal) t1.hr t1.pr gS
        refine wp_of_does ⟨.value (.tuple #[]), .tuple #[], w', E1, ?_, .inl rfl, VR.unit E1, ?_⟩ hn
        · simp only [execOp, resolve, hcal, he, Deferred.ofValue, pure_bind, invoke]
          rw [hx1, hrun]
          rfl
        · rw [hn1] at ht; exact t1.trans ht
      | false =>
      have hcall0 := callB_ok hx hrec hsw h hav1 (hal1.trans hal) t1.hr t1.pr (fun n ha hb hd => by
        rcases t1.dom n hd with d | ⟨d1, d2⟩
        · exact fresh n (by omega) hb d
        · omega)
      have hcall : CallOk P E S w g (a' ++ c.args.map a.eval ++ c') v S' := by
        refine Calls.mono hcall0 ?_
        rintro e w' ⟨v', E', he', hv', ht⟩
        rw [hn1] at ht
        exact ⟨v', E', he', hv', t1.trans ht⟩
      have hfn : ∃ fn, P.funcs[g]? = some fn ∧ fn.body.isSome = true := by
        have : ∀ args S r, callN P rec g args S = some r → ∃ fn, P.funcs[g]? = some fn ∧ fn.body.isSome = true := by
          intro args S r h
          simp only [callN, o2_eq, on3_eq, ob_some] at h
          obtain ⟨fn, hf, c, hb, _⟩ := h
          exact ⟨fn, hf, by rw [hb]; rfl⟩
        unfold callB at h
        rw [hsw, cond_false] at h
        cases ht : tinyA g args' <;> rw [ht] at h
        rotate_left
        · obtain ⟨_, _, _, _, _, _, ht, _⟩ := tinyA_some ht
          exact (hx.tiny g _ ht).1
        rw [cond_false] at h
        split at h
        · rename_i q hq
          obtain ⟨_, _, _, _, _, _, _, _, _, _, _, hso, _⟩ := sortQ_some hq
          exact (hx.sorts g _ _ hso).1
        cases hp : pol g <;> rw [hp] at h
        · exact this _ _ _ h
        · have h' : callP P rec g args' S1 = some (v, S') := h
          simp only [callP, o2_eq, on3_eq, ob_some] at h'
          obtain ⟨as, _, q, hq, _⟩ := h'
          unfold pureF at hq
          split at hq
          · rename_i hxq
            exact (hx.known _ _ _ hxq).1
          · simp only [o2_eq, on3_eq, ob_some] at hq
            obtain ⟨r, hr', _⟩ := hq
            simp only [callM, o2_eq, on3_eq, ob_some] at hr'
            obtain ⟨fn, hf, c, hb, _⟩ := hr'
            exact ⟨fn, hf, by rw [hb]; rfl⟩
      obtain ⟨fn, hf, hbody⟩ := hfn
      have hrun : (execOp a.eval ⟨dst, .call c, type, pos, after, guard⟩).run P w = .ok (.enter g (a' ++ c.args.map a.eval ++ c')) w := by
        have hb : fn.body.isNone = false := by cases hb : fn.body <;> simp_all
        simp only [execOp, resolve, hcal, he, Deferred.ofValue, pure_bind, invoke, callFunc, Sem.run_bind, run_program, Result.andThen_ok, hf, hP g fn hf hbody, hb, Bool.false_eq_true, if_false, Sem.run_pure]
      unfold Oper.wp
      rw [hrun]
      refine Calls.mono hcall ?_
      rintro e w' ⟨v', E', rfl, hv', ht⟩
      exact hn v' w' E' hv' ht
    · cases h
  · cases h

theorem opSim {pol : FuncId → Bool} {rec : RunT} (hx : MxOk P) (hP : NoNum P) (hrec : RecOk P rec) {o : Oper} {a : Act} {v : AV} (h : (aOp pol P o.op).f rec T S = some (v, S'))
    (ho : ∀ x ∈ o.op.operands.toList, ∀ u, ev T x = some u → VR E u (a.eval x)) (hr : HR E S.heap.get w) (pr : PR E w) (fresh : ∀ n, S.next ≤ n → n < S'.next → ¬ E.dom n)
    {next : Act → World → Prop} {Q : Exit → Act → World → Prop}
    (hn : ∀ v' w' E', VR E' v v' → Tran E S.heap.get w S.next E' S'.heap.get w' S'.next → next (a.put o.dst v') w') : o.wp P a w next Q := by
  obtain ⟨dst, op, type, pos, after, guard⟩ := o
  simp only at h ho hn ⊢
  cases op
  case move x => exact sim_move h ho hr pr hn
  case assign x => exact sim_assign h ho hr pr hn
  case pick c x y => exact sim_pick h ho hr pr hn
  case alloc t => exact sim_alloc h ho hr pr fresh hn
  case box t x => exact sim_box h ho hr pr fresh hn
  case build t ps => exact sim_build h ho hr pr hn
  case buildSlice t n ps => exact sim_buildSlice h ho hr pr fresh hn
  case load t p => exact sim_load h ho hr pr hn
  case store t p x => exact sim_store h ho hr pr hn
  case nilCheck x => exact sim_nilCheck h ho hr pr hn
  case binOp op t x y yt => exact sim_binOp h ho hr pr hn
  case unOp op t x => exact sim_unOp h ho hr pr hn
  case convert s d x => exact sim_convert h ho hr pr hn
  case makeInterface t x => exact sim_makeInterface h ho hr pr hn
  case makeFunc fn f c => exact sim_makeFunc h ho hr pr hn
  case makeMap t r => exact sim_makeMap h ho hr pr fresh hn
  case makeSlice t l c => exact sim_makeSlice h ho hr pr fresh hn
  case slice t x lo hi mx => exact sim_slice h ho hr pr hn
  case fieldAddr s x f => exact sim_fieldAddr h ho hr pr hn
  case field s x f => exact sim_field h ho hr pr hn
  case indexAddr t x i => exact sim_indexAddr h ho hr pr hn
  case index t x i => exact sim_index h ho hr pr hn
  case lookup t x i ok => exact sim_lookup h ho hr pr hn
  case mapUpdate t m k x => exact sim_mapUpdate h ho hr pr hn
  case mapEntry t m k => exact sim_mapEntry h ho hr pr hn
  case entryStore t m s x => exact sim_entryStore h ho hr pr hn
  case extract t i => exact sim_extract h ho hr pr hn
  case insert t m k x => exact sim_insert h ho hr pr hn
  case range t x => exact sim_range h ho hr pr fresh hn
  case entry x => exact sim_entry h ho hr pr hn
  case call c => exact sim_call hx hP hrec h ho hr pr fresh hn
  all_goals (simp only [aOp, reduceCtorEq] at h)

/-! reading operations leave the world alone -/
theorem wp_of_reads {o : Oper} {a : Act} {v : AV} {s : Sem Value} {next : Act → World → Prop} {Q : Exit → Act → World → Prop} (he : execOp a.eval o = (do pure (.value (← s)))) (h : DoesR P s E w v)
    (hn : ∀ v', VR E v v' → next (a.put o.dst v') w) : o.wp P a w next Q := by
  obtain ⟨v', hrun, hv⟩ := h
  unfold Oper.wp
  rw [he]
  simp only [Sem.run_bind, hrun, Result.andThen_ok, Sem.run_pure]
  exact hn v' hv

theorem readSim {pol : FuncId → Bool} {rec : RunT} {o : Oper} (hc : cls pol o.op = .read) {a : Act} {v : AV} (h : (aOp pol P o.op).f rec T S = some (v, S'))
    (ho : ∀ x ∈ o.op.operands.toList, ∀ u, ev T x = some u → VR E u (a.eval x)) (hr : HR E S.heap.get w) (pr : PR E w)
    {next : Act → World → Prop} {Q : Exit → Act → World → Prop} (hn : ∀ v', VR E v v' → next (a.put o.dst v') w) : o.wp P a w next Q := by
  obtain ⟨dst, op, type, pos, after, guard⟩ := o
  simp only at h ho hn hc ⊢
  cases op <;> simp only [cls, reduceCtorEq] at hc
  case slice t x lo hi mx => cases hb : allN lo hi mx <;> rw [hb] at hc <;> cases hc
  case load t p =>
    simp only [aOp] at h
    split at h
    · rename_i e he
      simp only [o2_eq, on3_eq, ob_some, Option.some.injEq, Prod.mk.injEq] at h
      obtain ⟨q, hq, u, hu, rfl, rfl⟩ := h
      exact wp_of_reads rfl (load_does he hu (ho p (by simp [Op.operands]) q hq) hr pr) hn
    · cases h
  case convert s d x =>
    simp only [aOp, o2_eq, on3_eq, ob_some, Option.some.injEq, Prod.mk.injEq] at h
    obtain ⟨u, hu, z, hz, rfl, rfl⟩ := h
    exact wp_of_reads rfl (conv_does hz (ho x (by simp [Op.operands]) u hu) hr pr) hn
  case lookup t x i ok =>
    simp only [aOp, o2_eq, on3_eq, ob_some, Option.some.injEq, Prod.mk.injEq] at h
    obtain ⟨u, hu, u', hu', z, hz, rfl, rfl⟩ := h
    exact wp_of_reads rfl (lookup_does hz (ho x (by simp [Op.operands]) u hu) (ho i (by simp [Op.operands]) u' hu') hr pr) hn
  case call c =>
    split at hc
    · rename_i hcal
      simp only [aOp, hcal] at h
      simp only [o2_eq, on3_eq, ob_some] at h
      obtain ⟨args, hevs, h⟩ := h
      have := evs_rel (ρ := a.eval) hevs (fun x hx => ho x (by simp only [Op.operands, Call.operands]; simp; exact .inr (by simpa using hx)))
      obtain ⟨hv, hl⟩ := this
      unfold builtinA at h
      split at h
      · rename_i x t ts _ hts
        simp only [o2_eq, on3_eq, ob_some, Option.some.injEq, Prod.mk.injEq] at h
        obtain ⟨z, hz, rfl, rfl⟩ := h
        have hva : ∃ u, c.args.map a.eval = #[u] ∧ VR E x u := by
          match hvl : c.args.toList.map a.eval, hv with
          | [], hv => simp only [VRP] at hv
          | u :: us, hv =>
            rw [VRP.cons_iff] at hv
            have : us = [] := by
              have h2 : (c.args.toList.map a.eval).length = 1 := by simpa using hl.symm
              rw [hvl] at h2; simpa using h2
            subst this
            exact ⟨u, by apply Array.toList_inj.1; simpa using hvl, hv.1⟩
        obtain ⟨u, hvals, hxu⟩ := hva
        have ht0 : c.argTypes[0]? = some t := by
          rw [← Array.getElem?_toList, hts]; rfl
        refine wp_of_reads (s := Builtin.len_ c.argTypes type (c.args.map a.eval)) ?_ (by rw [hvals]; exact len_does type ht0 hz hxu hr pr) hn
        simp only [execOp, resolve, hcal, pure_bind, invoke]
        rfl
      all_goals first | (cases h; done) | contradiction
    · cases hc
    · cases hc
    · cases hc
    · rename_i f _
      cases hp : polO pol f <;> simp [hp] at hc
    · cases hc

end
end Go.Eng
