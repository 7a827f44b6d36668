/-
  Each operation of the engine describes the model's: addresses, numbers, comparisons, append.
-/
import Derived.Test.YtjkdpgkpghcfbaaGreatDoorEngOps
import Derived.Lib.Builder
import Derived.Lib.UnsafeStr
set_option linter.unusedSimpArgs false
set_option linter.unusedVariables false
namespace Go.Eng
set_option linter.unusedSectionVars false
variable [Gl] [Mx]

theorem sliceOf_some {d : TypeDesc} {t : TypeId} (h : sliceOf d = some t) : d = .slice t := by
  unfold sliceOf at h; split at h <;> simp_all
theorem structOf_some {d : TypeDesc} {fs : List Field} (h : structOf d = some fs) : ∃ a, d = .struct a ∧ a.toList = fs := by
  unfold structOf at h; split at h <;> simp_all
theorem mapOf_some {d : TypeDesc} {k e : TypeId} (h : mapOf d = some (k, e)) : d = .map k e := by
  unfold mapOf at h; split at h <;> simp_all

section
variable {P : Program} {E : Gh} {S S' : St} {w : World} {T : Tm} {ρ : Operand → Value}

/-- the operands that an operation looks at are described -/
def OR (E : Gh) (T : Tm) (ρ : Operand → Value) (xs : List Operand) : Prop := ∀ x ∈ xs, ∀ v, ev T x = some v → VR E v (ρ x)

theorem bnd_rel {o : Option Operand} {d n : Nat} (h : bnd T o d = some n) (ho : ∀ x, o = some x → ∀ v, ev T x = some v → VR E v (ρ x)) :
    (o = none ∧ n = d) ∨ ∃ x k, o = some x ∧ ρ x = .int k n := by
  unfold bnd at h
  split at h
  · cases h; exact .inl ⟨rfl, rfl⟩
  · rename_i x
    rw [ob_some] at h
    obtain ⟨v, hv, hn⟩ := h
    obtain ⟨k, hk⟩ := asN_rel hn (ho x rfl v hv)
    exact .inr ⟨x, k, rfl, hk⟩

theorem run_sliceBound {k : IntKind} {n y : Nat} (c : BoundsCode) (h : n ≤ y) : (Instr.sliceBound (.int k n) y c).run P w = .ok n w := by
  simp [Instr.sliceBound, asIntOf, h]

theorem run_bounds {isSlice : Bool} {len cap : Nat} {lo hi : Option Operand} {l h : Nat} (hl : bnd T lo 0 = some l) (hh : bnd T hi len = some h) (h1 : l ≤ h) (h2 : h ≤ cap)
    (ho : ∀ x, lo = some x ∨ hi = some x → ∀ v, ev T x = some v → VR E v (ρ x)) : (Instr.sliceBounds isSlice len cap (lo.map ρ) (hi.map ρ) none).run P w = .ok (l, h, cap) w := by
  rcases bnd_rel hl (fun x hx => ho x (.inl hx)) with ⟨rfl, rfl⟩ | ⟨x, k, rfl, hx⟩ <;> rcases bnd_rel hh (fun x hx => ho x (.inr hx)) with ⟨rfl, rfl⟩ | ⟨y, k', rfl, hy⟩
  · simp [Instr.sliceBounds]
  · simp [Instr.sliceBounds, hy, run_sliceBound _ h2]
  · simp [Instr.sliceBounds, hx, run_sliceBound _ h1]
  · simp [Instr.sliceBounds, hx, hy, run_sliceBound _ h1, run_sliceBound _ h2]

theorem slice3_does {t : TypeId} {x y : AV} {lo hi : Option Operand} {mx : Operand} {v : Value} (h : slice3A P T t x lo hi mx = some y) (hx : VR E x v)
    (ho : ∀ x, hi = some x ∨ mx = x → ∀ v, ev T x = some v → VR E v (ρ x)) (hr : HR E S.heap.get w) (pr : PR E w) :
    DoesV P (Instr.sliceAt t v (lo.map ρ) (hi.map ρ) (some (ρ mx))) E S w y S := by
  simp only [slice3A, o2_eq, on3_eq, ob_some] at h
  obtain ⟨e, he, h⟩ := h
  have bd : ∀ {cap h m len : Nat} {hi : Operand}, ((ev T hi).ob asN) = some h → ((ev T mx).ob asN) = some m → h ≤ m → m ≤ cap → (∀ v, ev T hi = some v → VR E v (ρ hi)) → (∀ v, ev T mx = some v → VR E v (ρ mx)) →
      (Instr.sliceBounds true len cap none (some (ρ hi)) (some (ρ mx))).run P w = .ok (0, h, m) w := by
    intro cap h m len hi hh hm h1 h2 o1 o2
    obtain ⟨a, ha, ha'⟩ := ob_some.1 hh
    obtain ⟨b, hb, hb'⟩ := ob_some.1 hm
    obtain ⟨k, hk⟩ := asN_rel ha' (o1 a ha)
    obtain ⟨k', hk'⟩ := asN_rel hb' (o2 b hb)
    simp [Instr.sliceBounds, hk, hk', run_sliceBound _ h1, run_sliceBound _ h2]
  split at h
  · rename_i elem hi hund
    simp only [o2_eq, on3_eq, ob_some, chk_some, Bool.and_eq_true, nble_iff, Option.some.injEq] at h
    obtain ⟨g, hg, h', hh, m', hm, _, ⟨h1, h2⟩, rfl⟩ := h
    simp only [VR] at hx
    subst hx
    obtain rfl : h' = 0 := by omega
    obtain rfl : m' = 0 := by omega
    have hb := bd (cap := 0) (len := 0) (ob_some.2 hh) (ob_some.2 hm) (Nat.le_refl 0) (Nat.le_refl 0) (ho _ (.inl rfl)) (ho _ (.inr rfl))
    refine DoesV.same hr pr ?_ (v' := .slice none 0 0) (by simp only [VR])
    simp only [Instr.sliceAt, Sem.run_bind, r_und he, hund, Result.andThen_ok, Instr.slice, Option.map_none, Option.map_some]
    simp only [hb, Result.andThen_ok, r_size hg, Sem.run_pure]
    simp
  · rename_i elem n off len cap z hi hund
    simp only [o2_eq, on3_eq, ob_some, chk_some, nbeq_iff, Bool.and_eq_true, nble_iff, Option.some.injEq] at h
    obtain ⟨g, hg, _, rfl, h', hh, m', hm, _, ⟨h1, h2⟩, rfl⟩ := h
    simp only [VR] at hx
    obtain ⟨d, c, rfl, hlc, hroom, hcap⟩ := hx
    have hb := bd (cap := c) (len := len) (ob_some.2 hh) (ob_some.2 hm) h1 (Nat.le_trans h2 hlc) (ho _ (.inl rfl)) (ho _ (.inr rfl))
    refine DoesV.same hr pr (v' := .slice (some ⟨E.blk n, E.sh n + off, none⟩) h' m') ?_ ?_
    · simp only [Instr.sliceAt, Sem.run_bind, r_und he, hund, Result.andThen_ok, Instr.slice, Option.map_none, Option.map_some]
      simp only [hb, Result.andThen_ok, r_size hg, Sem.run_pure]
      by_cases e : m' = 0
      · simp [e]
      · simp [e, add_mk]
    · simp only [VR]
      refine ⟨d, m', rfl, h1, ?_, fun k hk => by cases hk; rfl⟩
      have : m' * g.size ≤ c * g.size := Nat.mul_le_mul_right _ (by omega)
      omega
  · cases h

theorem slice_does {t : TypeId} {x y : AV} {lo hi mx : Option Operand} {v : Value} (h : sliceA P T t x lo hi mx = some y) (hx : VR E x v)
    (ho : ∀ x, lo = some x ∨ hi = some x ∨ mx = some x → ∀ v, ev T x = some v → VR E v (ρ x)) (hr : HR E S.heap.get w) (pr : PR E w) :
    DoesV P (Instr.sliceAt t v (lo.map ρ) (hi.map ρ) (mx.map ρ)) E S w y S := by
  unfold sliceA at h
  cases mx with
  | some m => exact slice3_does h hx (fun x hx => ho x (hx.elim (fun h => .inr (.inl h)) (fun h => .inr (.inr (congrArg some h))))) hr pr
  | none =>
  have ho : ∀ x, lo = some x ∨ hi = some x → ∀ v, ev T x = some v → VR E v (ρ x) := fun x h => ho x (h.elim .inl (fun h => .inr (.inl h)))
  simp only [o2_eq, on3_eq, ob_some, chk_some] at h
  obtain ⟨e, he, h⟩ := h
  split at h
  · rename_i s hund
    simp only [o2_eq, on3_eq, ob_some, chk_some, Bool.and_eq_true, nble_iff, Option.some.injEq] at h
    obtain ⟨l, hl, h', hh, _, ⟨h1, h2⟩, rfl⟩ := h
    simp only [VR] at hx
    subst hx
    refine DoesV.same hr pr ?_ (v' := .string (s.extract l h')) (by simp only [VR])
    simp only [Instr.sliceAt, Sem.run_bind, r_und he, hund, Result.andThen_ok, Instr.slice, Option.map_none, Option.isSome_none, Bool.false_eq_true, if_false]
    simp only [run_bounds hl hh h1 h2 ho, Result.andThen_ok, Sem.run_pure]
  · rename_i elem hund
    simp only [o2_eq, on3_eq, ob_some, chk_some, Bool.and_eq_true, nble_iff, Option.some.injEq] at h
    obtain ⟨g, hg, l, hl, h', hh, _, ⟨h1, h2⟩, rfl⟩ := h
    simp only [VR] at hx
    subst hx
    obtain rfl : h' = 0 := by omega
    obtain rfl : l = 0 := by omega
    refine DoesV.same hr pr ?_ (v' := .slice none 0 0) (by simp only [VR])
    simp only [Instr.sliceAt, Sem.run_bind, r_und he, hund, Result.andThen_ok, Instr.slice, Option.map_none]
    simp only [run_bounds hl hh h1 h2 ho, Result.andThen_ok, r_size hg, Sem.run_pure]
    simp
  · rename_i elem n off len cap z hund
    simp only [o2_eq, on3_eq, ob_some, chk_some, nbeq_iff] at h
    obtain ⟨g, hg, _, rfl, l, hl, h', hh, h⟩ := h
    simp only [VR] at hx
    obtain ⟨d, c, rfl, hlc, hroom, hcap⟩ := hx
    have run : ∀ (h1 : l ≤ h') (h2 : h' ≤ c), (Instr.sliceAt t (.slice (some ⟨E.blk n, E.sh n + off, none⟩) len c) (lo.map ρ) (hi.map ρ) (Option.map ρ none)).run P w =
        .ok (.slice (some (if c = l then ⟨E.blk n, E.sh n + off, none⟩ else ⟨E.blk n, E.sh n + off + l * g.size, none⟩)) (h' - l) (c - l)) w := by
      intro h1 h2
      simp only [Instr.sliceAt, Sem.run_bind, r_und he, hund, Result.andThen_ok, Instr.slice, Option.map_none]
      simp only [run_bounds hl hh h1 h2 ho, Result.andThen_ok, r_size hg, Sem.run_pure]
      by_cases e : c = l
      · simp [e]
      · simp [e, add_mk]
    unfold cutMs at h
    split at h
    · rename_i k
      simp only [o2_eq, on3_eq, ob_some, chk_some, Bool.and_eq_true, nble_iff, Option.some.injEq] at h
      obtain ⟨_, ⟨h1, h2⟩, rfl⟩ := h
      obtain rfl : c = k := hcap k rfl
      refine DoesV.same hr pr (run h1 h2) ?_
      simp only [VR]
      refine ⟨d, c - l, ?_, by omega, ?_, fun k hk => by cases hk; rfl⟩
      · by_cases e : c = l
        · rw [if_pos e, nbeq_iff.2 e, bc_true]
        · rw [if_neg e, nbeq_false e, bc_false]; simp [Nat.add_assoc]
      · by_cases e : c = l
        · rw [nbeq_iff.2 e, bc_true, e]; simp; subst e; have := Nat.zero_le (c * g.size); omega
        · rw [nbeq_false e, bc_false, Nat.sub_mul]
          have : l * g.size ≤ c * g.size := Nat.mul_le_mul_right _ (by omega)
          omega
    · simp only [o2_eq, on3_eq, ob_some, chk_some, Bool.and_eq_true, nble_iff] at h
      obtain ⟨_, ⟨h1, h2⟩, h⟩ := h
      have hrun := run h1 (by omega)
      by_cases l0 : l = 0
      · subst l0
        simp only [Nat.beq_refl, bc_true, Option.some.injEq] at h
        subst h
        refine DoesV.same hr pr hrun ?_
        simp only [VR]
        refine ⟨d, c, ?_, by omega, hroom, fun k hk => by cases hk⟩
        by_cases e : c = 0
        · rw [if_pos e]; simp
        · rw [if_neg e]; simp
      · rw [nbeq_false l0, bc_false] at h
        by_cases hlt : l < len
        · rw [nblt_iff.2 hlt, bc_true, Option.some.injEq] at h
          subst h
          refine DoesV.same hr pr hrun ?_
          simp only [VR]
          refine ⟨d, c - l, ?_, by omega, ?_, fun k hk => by cases hk⟩
          · rw [if_neg (by omega)]; simp [Nat.add_assoc]
          · rw [Nat.sub_mul]
            have : l * g.size ≤ c * g.size := Nat.mul_le_mul_right _ (by omega)
            omega
        · have hb : Nat.blt l len = false := by
            cases hb : Nat.blt l len with
            | false => rfl
            | true => exact absurd (nblt_iff.1 hb) hlt
          rw [hb, bc_false, Option.some.injEq] at h
          subst h
          refine DoesV.same hr pr hrun ?_
          simp only [VR]
          have e0 : h' - l = 0 := by omega
          rw [e0]
          by_cases e : c = l
          · exact .inl ⟨E.blk n, E.sh n + off, none, c - l, by rw [if_pos e], Nat.zero_le _, .inl trivial⟩
          · exact .inl ⟨E.blk n, E.sh n + off + l * g.size, none, c - l, by rw [if_neg e], Nat.zero_le _, .inl trivial⟩
  · rename_i elem cs len hund
    simp only [o2_eq, on3_eq, ob_some, chk_some, Bool.and_eq_true, nble_iff, Option.some.injEq] at h
    obtain ⟨g, hg, l, hl, h', hh, _, ⟨h1, h2⟩, rfl⟩ := h
    simp only [VR] at hx
    rcases hx with ⟨b, o, sp, c, rfl, hlc, hcs⟩ | ⟨rfl, rfl, rfl⟩
    rotate_left
    · obtain rfl : h' = 0 := by omega
      obtain rfl : l = 0 := by omega
      refine DoesV.same hr pr ?_ (v' := .slice none 0 0) (by simp [VR])
      simp only [Instr.sliceAt, Sem.run_bind, r_und he, hund, Result.andThen_ok, Instr.slice, Option.map_none]
      simp only [run_bounds hl hh h1 h2 ho, Result.andThen_ok, r_size hg, Sem.run_pure]
      simp
    have hrun : (Instr.sliceAt t (.slice (some ⟨b, o, sp⟩) len c) (lo.map ρ) (hi.map ρ) (Option.map ρ none)).run P w =
        .ok (.slice (some (if c = l then ⟨b, o, sp⟩ else (⟨b, o, sp⟩ : Addr).add (l * g.size))) (h' - l) (c - l)) w := by
      simp only [Instr.sliceAt, Sem.run_bind, r_und he, hund, Result.andThen_ok, Instr.slice, Option.map_none]
      simp only [run_bounds hl hh h1 (Nat.le_trans h2 hlc) ho, Result.andThen_ok, r_size hg, Sem.run_pure]
      by_cases e : c = l
      · simp [e]
      · simp [e]
    refine DoesV.same hr pr hrun ?_
    simp only [VR]
    by_cases e : c = l
    · refine .inl ⟨b, o, sp, c - l, by rw [if_pos e], by omega, .inl ?_⟩
      have : h' - l = 0 := by omega
      simp [this]
    · rcases hcs with rfl | ⟨rfl, arr, hp, hv⟩
      · refine .inl ⟨((⟨b, o, sp⟩ : Addr).add (l * g.size)).block, ((⟨b, o, sp⟩ : Addr).add (l * g.size)).off, ((⟨b, o, sp⟩ : Addr).add (l * g.size)).spot, c - l, by rw [if_neg e], by omega, .inl (by simp)⟩
      · refine .inl ⟨b, o + l * g.size, none, c - l, by rw [if_neg e, add_mk], by omega, ?_⟩
        exact .inr ⟨rfl, arr, hp, by rw [← List.drop_drop]; exact VRP.take _ (VRP.drop _ hv)⟩
  · rename_i m elem n len z hund
    simp only [o2_eq, on3_eq, ob_some, chk_some, Bool.and_eq_true, nbeq_iff] at h
    obtain ⟨g, hg, _, ⟨rfl, rfl⟩, l, hl, h', hh, h⟩ := h
    simp only [VR] at hx
    obtain ⟨d, rfl, hroom⟩ := hx
    simp only [cutMs, o2_eq, on3_eq, ob_some, chk_some, Bool.and_eq_true, nble_iff, Option.some.injEq] at h
    obtain ⟨_, ⟨h1, h2⟩, rfl⟩ := h
    have hrun : (Instr.sliceAt t (.pointer (some ⟨E.blk n, E.sh n, none⟩)) (lo.map ρ) (hi.map ρ) (Option.map ρ none)).run P w =
        .ok (.slice (some (if len = l then ⟨E.blk n, E.sh n, none⟩ else ⟨E.blk n, E.sh n + l * g.size, none⟩)) (h' - l) (len - l)) w := by
      simp only [Instr.sliceAt, Instr.sureAddr, Sem.run_bind, r_und he, hund, Result.andThen_ok, Option.map_none, Sem.run_pure]
      simp only [run_bounds hl hh h1 h2 ho, Result.andThen_ok, r_size hg, Sem.run_pure]
      by_cases e : len = l
      · simp [e]
      · simp [e, add_mk]
    refine DoesV.same hr pr hrun ?_
    simp only [VR]
    refine ⟨d, len - l, ?_, by omega, ?_, fun k hk => by cases hk; rfl⟩
    · by_cases e : len = l
      · rw [if_pos e, nbeq_iff.2 e, bc_true]; simp
      · rw [if_neg e, nbeq_false e, bc_false]; simp
    · by_cases e : len = l
      · rw [nbeq_iff.2 e, bc_true, e]; simp; subst e; have := Nat.zero_le (len * g.size); omega
      · rw [nbeq_false e, bc_false, Nat.sub_mul]
        have : l * g.size ≤ len * g.size := Nat.mul_le_mul_right _ (by omega)
        omega
  · cases h

theorem sliceW_does {t : TypeId} {x y : AV} {v : Value} (h : sliceW P S T t x = some y) (hx : VR E x v) (hr : HR E S.heap.get w) (pr : PR E w) :
    DoesV P (Instr.sliceAt t v none none none) E S w y S := by
  unfold sliceW at h
  split at h
  · rename_i n off
    rw [ob_some] at h
    obtain ⟨e, he, h⟩ := h
    split at h
    · rename_i m elem hund
      simp only [o2_eq, on3_eq, ob_some, chk_some, Bool.and_eq_true, nble_iff, nblt_iff, Option.some.injEq] at h
      obtain ⟨g, hg, cs, hcs, _, ⟨h1, h2, h0⟩, rfl⟩ := h
      simp only [VR] at hx
      obtain ⟨d, rfl⟩ := hx
      obtain ⟨arr, el, fz, _, hb, _, hv⟩ := hr.cells hcs
      have hl := hv.len
      simp at hl
      refine DoesV.same hr pr (v' := .slice (some ⟨E.blk n, E.sh n + off, none⟩) m m) ?_ ?_
      · have hb : (Instr.sliceBounds false m m none none none).run P w = .ok (0, m, m) w := rfl
        simp only [Instr.sliceAt, Instr.sureAddr, Sem.run_bind, r_und he, hund, Result.andThen_ok, Sem.run_pure]
        simp only [hb, Result.andThen_ok, r_size hg, Sem.run_pure]
        rw [if_neg (by omega)]
        simp [add_mk]
      · simp only [VR]
        refine ⟨d, m, rfl, Nat.le_refl _, ?_, fun k hk => by cases hk; rfl⟩
        rw [hb]
        omega
    · cases h
  · exact slice_does (ρ := fun _ => .tuple #[]) (lo := none) (hi := none) (mx := none) h hx (fun x hx => by rcases hx with h | h | h <;> cases h) hr pr

theorem shiftP_rel {x y : AV} {off : Nat} {v : Value} (h : shiftP off x = some y) (hx : VR E x v) : ∃ b o, v = .pointer (some ⟨b, o, none⟩) ∧ VR E y (.pointer (some ⟨b, o + off, none⟩)) := by
  unfold shiftP at h
  split at h
  · cases h
    simp only [VR] at hx ⊢
    obtain ⟨d, rfl⟩ := hx
    exact ⟨_, _, rfl, d, by simp [Nat.add_assoc]⟩
  · cases h
    simp only [VR] at hx ⊢
    obtain ⟨b, o, rfl, arr, hp, hv⟩ := hx
    exact ⟨b, o, rfl, b, o + off, rfl, arr, hp, by rw [← List.drop_drop]; exact VRP.drop _ hv⟩
  · cases h
    simp only [VR] at hx ⊢
    obtain ⟨d, rfl, _⟩ := hx
    exact ⟨_, _, rfl, d, rfl⟩
  · cases h

theorem fieldAddr_does {s : TypeId} {x y : AV} {f : Nat} {v : Value} (h : fieldAddrA P s x f = some y) (hx : VR E x v) (hr : HR E S.heap.get w) (pr : PR E w) :
    DoesV P (Instr.fieldAt s v f) E S w y S := by
  simp only [fieldAddrA, o2_eq, on3_eq, ob_some, chk_some] at h
  obtain ⟨e, he, fs, hfs, fd, hfd, g, hg, _, hz, h⟩ := h
  obtain ⟨arr, hund, rfl⟩ := structOf_some hfs
  obtain ⟨b, o, rfl, hy⟩ := shiftP_rel h hx
  have hfd' : arr[f]? = some fd := by simpa using hfd
  have hz' : g.size ≠ 0 := fun e => by rw [e] at hz; cases hz
  refine DoesV.same hr pr ?_ hy
  simp [Instr.fieldAt, r_und he, hund, hfd', Instr.sureAddr, fieldPlace, r_size hg, hz', add_mk]

theorem run_part {t : TypeId} {e : TE} (he : te P t = some e) {cs : List AV} {arr : Array Value} {off : Nat} {x : AV} (h : partA e cs off = some x) (hr : VRP E cs arr.toList) :
    ∃ v, (∀ w, (part t arr off).run P w = .ok v w) ∧ VR E x v := by
  rcases partA_rel h hr with ⟨ha, hle, hx⟩ | ⟨ha, v, hv, hx⟩
  · refine ⟨_, fun w => ?_, hx⟩
    simp only [part, Sem.run_bind, r_isAgg he, Result.andThen_ok, ha, if_true, r_size he, Sem.run_pure]
    congr 2
    apply Array.toList_inj.1
    simp [List.take_drop]
  · refine ⟨v, fun w => ?_, hx⟩
    have hv' : arr[off]? = some v := by simpa using hv
    simp only [part, Sem.run_bind, r_isAgg he, Result.andThen_ok, ha, Bool.false_eq_true, if_false, hv', Sem.run_pure]

theorem field_does {s : TypeId} {x y : AV} {f : Nat} {v : Value} (h : fieldA P s x f = some y) (hx : VR E x v) (hr : HR E S.heap.get w) (pr : PR E w) :
    DoesV P (Instr.field s v f) E S w y S := by
  unfold fieldA at h
  split at h
  · rename_i cs
    simp only [o2_eq, on3_eq, ob_some] at h
    obtain ⟨e, he, fs, hfs, fd, hfd, g, hg, h⟩ := h
    obtain ⟨arr, hund, rfl⟩ := structOf_some hfs
    simp only [VR] at hx
    obtain ⟨a, rfl, ha, _⟩ := hx
    obtain ⟨u, hu, hy⟩ := run_part hg h ha
    have hfd' : arr[f]? = some fd := by simpa using hfd
    refine DoesV.same hr pr ?_ hy
    simp [Instr.field, r_und he, hund, hfd', asAgg, hu]
  · cases h

theorem indexAddr_does {t : TypeId} {x ix y : AV} {v iv : Value} (h : indexAddrA P t x ix = some y) (hx : VR E x v) (hi : VR E ix iv) (hr : HR E S.heap.get w) (pr : PR E w) :
    DoesV P (Instr.indexAt t v iv) E S w y S := by
  simp only [indexAddrA, o2_eq, on3_eq, ob_some] at h
  obtain ⟨i, hin, e, he, h⟩ := h
  obtain ⟨k, rfl⟩ := asN_rel hin hi
  split at h
  · rename_i len elem hund
    simp only [o2_eq, on3_eq, ob_some, chk_some, nblt_iff] at h
    obtain ⟨g, hg, _, hlt, h⟩ := h
    obtain ⟨b, o, rfl, hy⟩ := shiftP_rel h hx
    refine DoesV.same hr pr ?_ hy
    simp [Instr.indexAt, asIntOf, r_und he, hund, Instr.sureAddr, hlt, r_size hg, add_mk]
  · rename_i elem n off len cap z hund
    simp only [o2_eq, on3_eq, ob_some, chk_some, nblt_iff, Option.some.injEq] at h
    obtain ⟨g, hg, _, hlt, rfl⟩ := h
    simp only [VR] at hx
    obtain ⟨d, c, rfl, _⟩ := hx
    refine DoesV.same hr pr ?_ (v' := .pointer (some ⟨E.blk n, E.sh n + (off + i * g.size), none⟩)) (by simp only [VR]; exact ⟨d, trivial⟩)
    simp [Instr.indexAt, asIntOf, r_und he, hund, hlt, r_size hg, add_mk, Nat.add_assoc]
  · rename_i elem cs len hund
    simp only [o2_eq, on3_eq, ob_some, chk_some, Bool.and_eq_true, nblt_iff, Option.some.injEq] at h
    obtain ⟨g, hg, _, ⟨hlt, hne⟩, rfl⟩ := h
    simp only [VR] at hx
    rcases hx with ⟨b, o, sp, c, rfl, _, hcs⟩ | ⟨_, rfl, _⟩
    rotate_left
    · omega
    rcases hcs with rfl | ⟨rfl, arr, hp, hv⟩
    · simp at hne
    · refine DoesV.same hr pr ?_ (v' := .pointer (some ⟨b, o + i * g.size, none⟩)) (by simp only [VR]; exact ⟨b, _, rfl, arr, hp, by rw [← List.drop_drop]; exact VRP.drop _ hv⟩)
      simp [Instr.indexAt, asIntOf, r_und he, hund, hlt, r_size hg, add_mk]
  · cases h

theorem index_does {t : TypeId} {x ix y : AV} {v iv : Value} (h : indexA P t x ix = some y) (hx : VR E x v) (hi : VR E ix iv) (hr : HR E S.heap.get w) (pr : PR E w) :
    DoesV P (Instr.index t v iv) E S w y S := by
  simp only [indexA, o2_eq, on3_eq, ob_some] at h
  obtain ⟨i, hin, e, he, h⟩ := h
  obtain ⟨k, rfl⟩ := asN_rel hin hi
  split at h
  · rename_i len elem cs hund
    simp only [o2_eq, on3_eq, ob_some, chk_some, nblt_iff] at h
    obtain ⟨g, hg, _, hlt, h⟩ := h
    simp only [VR] at hx
    obtain ⟨a, rfl, ha, _⟩ := hx
    obtain ⟨u, hu, hy⟩ := run_part hg h ha
    refine DoesV.same hr pr ?_ hy
    simp [Instr.index, asIntOf, r_und he, hund, hlt, r_size hg, hu]
  · rename_i s hund
    simp only [o2_eq, on3_eq, ob_some, Option.some.injEq] at h
    obtain ⟨b, hb, rfl⟩ := h
    simp only [VR] at hx
    subst hx
    refine DoesV.same hr pr ?_ (v' := .int .u8 b.toNat) (by simp only [VR])
    simp [Instr.index, asIntOf, r_und he, hund, hb]
  · cases h


/-! numbers, strings, comparisons -/
theorem intBin_rel {op : BinOp} {k : IntKind} {a b : Int} {y : AV} (t : TypeId) (h : intBinA op k a b = some y) (hs : op ≠ .shl ∧ op ≠ .shr) :
    ∃ v, (∀ w, (binOp op t (.int k a) (.int k b)).run P w = .ok v w) ∧ VR E y v := by
  cases op <;> simp only [intBinA, Option.some.injEq, bitsA] at h
  case quo =>
    split at h
    · cases h
    · rename_i hb
      cases h
      exact ⟨_, fun w => by simp [binOp, Op.intDiv, hb]; rfl, by simp only [VR]⟩
  case rem =>
    split at h
    · cases h
    · rename_i hb
      cases h
      exact ⟨_, fun w => by simp [binOp, Op.intDiv, hb]; rfl, by simp only [VR]⟩
  case shl => exact absurd rfl hs.1
  case shr => exact absurd rfl hs.2
  all_goals
    subst h
    exact ⟨_, fun w => by simp only [binOp, ne_eq, not_true_eq_false, if_false, Op.intArith, Op.intBits, Op.intCmp]; rfl, by simp only [VR]⟩

theorem shift_rel {op : BinOp} {k k' : IntKind} {a b : Int} {y : AV} (t : TypeId) (h : shiftA op k a b = some y) :
    ∃ v, (∀ w, (binOp op t (.int k a) (.int k' b)).run P w = .ok v w) ∧ VR E y v := by
  unfold shiftA at h
  split at h
  · cases h
  · rename_i hb
    split at h
    · cases h; exact ⟨_, fun w => by simp [binOp, Op.shift, hb]; rfl, by simp only [VR]⟩
    · cases h; exact ⟨_, fun w => by simp [binOp, Op.shift, hb]; rfl, by simp only [VR]⟩
    · cases h

theorem strBin_rel {op : BinOp} {a b : ByteArray} {y : AV} (t : TypeId) (h : strBinA op a b = some y) :
    ∃ v, (∀ w, (binOp op t (.string a) (.string b)).run P w = .ok v w) ∧ VR E y v := by
  cases op <;> simp only [strBinA, Option.some.injEq, reduceCtorEq] at h
  case add =>
    split at h
    · rename_i hl
      cases h
      have : ¬ (((a.size + b.size : Nat) : Int) > IntKind.i64.max) := by
        unfold big at hl
        have : IntKind.i64.max = 9223372036854775807 := by decide
        omega
      exact ⟨_, fun w => by simp only [binOp, Op.stringOp]; rw [if_neg this]; rfl, by simp only [VR]⟩
    · cases h
  all_goals
    subst h
    exact ⟨_, fun w => by simp only [binOp, Op.stringOp]; rfl, by simp only [VR]⟩

theorem guard_other {t : TypeId} {x y : Operand} {va vb : Value} (op : BinOp) (h1 : ¬ (va = .nilIface ∧ vb = .nilIface)) (h2 : ∀ a, va ≠ .agg a) (w : World) : (eqGuard op t x y va vb).run P w = .ok () w := by
  unfold eqGuard
  rw [Sem.run_ite]
  by_cases hc : (!(op matches .eql | .neq)) = true
  · exact if_pos hc
  · refine (if_neg hc).trans ?_
    cases va <;> first
      | exact absurd rfl (h2 _)
      | rfl
      | (cases vb <;> first | rfl | exact absurd ⟨rfl, rfl⟩ h1)

theorem guard_nil {t : TypeId} {x y : Operand} (op : BinOp) (h : (isConstO x || isConstO y) = true) (w : World) : (eqGuard op t x y .nilIface .nilIface).run P w = .ok () w := by
  unfold eqGuard
  rw [Sem.run_ite]
  by_cases hc : (!(op matches .eql | .neq)) = true
  · exact if_pos hc
  · refine (if_neg hc).trans ?_
    cases x <;> cases y <;> first | rfl | (simp [isConstO] at h)

theorem eq_deep {t : TypeId} {x y : Value} {r : Bool} (h : ∀ d, (Op.equalIn (d + 1) t x y).run P w = .ok r w) : (Op.equal t x y).run P w = .ok r w := by
  unfold Op.equal Op.maxDepth
  exact h 9999

theorem VR.int_inv {a : AV} {k : IntKind} {n : Int} (h : VR E a (.int k n)) : a = .int k n := by
  cases a <;> simp only [VR] at h <;> first | (cases h; rfl) | (exfalso; simp at h)
theorem VR.str_inv {a : AV} {s : ByteArray} (h : VR E a (.string s)) : a = .str s := by
  cases a <;> simp only [VR] at h <;> first | (cases h; rfl) | (exfalso; simp at h)
theorem VR.no_float {a : AV} {k : FloatKind} {n : Nat} : ¬ VR E a (.float k n) := by
  intro h; cases a <;> simp only [VR] at h <;> simp at h
theorem VR.no_complex {a : AV} {k : FloatKind} {n m : Nat} : ¬ VR E a (.complex k n m) := by
  intro h; cases a <;> simp only [VR] at h <;> simp at h

theorem eq_rel {t : TypeId} {e : TE} (he : te P t = some e) {x y : Operand} {a b : AV} {va vb : Value} {r : Bool} (op : BinOp) (h : eqA e.und (isConstO x || isConstO y) a b = some r) (ha : VR E a va) (hb : VR E b vb) :
    (∀ w, (eqGuard op t x y va vb).run P w = .ok () w) ∧ (∀ w, (Op.equal t va vb).run P w = .ok r w) := by
  have hu := fun w => r_und he w
  cases hd : e.und <;> rw [hd] at h hu <;> cases a <;> cases b <;> simp only [eqA, Option.some.injEq, reduceCtorEq] at h
  all_goals simp only [VR] at ha hb
  case bool.bool.bool => subst ha hb h; exact ⟨guard_other op (by simp) (by simp), fun w => eq_deep fun d => by rw [Op.equalIn, Sem.run_bind, hu]; rfl⟩
  case pointer.nilp.nilp => subst ha hb h; exact ⟨guard_other op (by simp) (by simp), fun w => eq_deep fun d => by rw [Op.equalIn, Sem.run_bind, hu]; rfl⟩
  case pointer.nilp.mp => obtain ⟨_, rfl⟩ := hb; subst ha h; exact ⟨guard_other op (by simp) (by simp), fun w => eq_deep fun d => by rw [Op.equalIn, Sem.run_bind, hu]; rfl⟩
  case pointer.nilp.fp => obtain ⟨_, _, rfl, _⟩ := hb; subst ha h; exact ⟨guard_other op (by simp) (by simp), fun w => eq_deep fun d => by rw [Op.equalIn, Sem.run_bind, hu]; rfl⟩
  case pointer.mp.nilp => obtain ⟨_, rfl⟩ := ha; subst hb h; exact ⟨guard_other op (by simp) (by simp), fun w => eq_deep fun d => by rw [Op.equalIn, Sem.run_bind, hu]; rfl⟩
  case pointer.fp.nilp => obtain ⟨_, _, rfl, _⟩ := ha; subst hb h; exact ⟨guard_other op (by simp) (by simp), fun w => eq_deep fun d => by rw [Op.equalIn, Sem.run_bind, hu]; rfl⟩
  case slice.nils.nils => subst ha hb h; exact ⟨guard_other op (by simp) (by simp), fun w => eq_deep fun d => by rw [Op.equalIn, Sem.run_bind, hu]; rfl⟩
  case slice.nils.ms => obtain ⟨_, _, rfl, _⟩ := hb; subst ha h; exact ⟨guard_other op (by simp) (by simp), fun w => eq_deep fun d => by rw [Op.equalIn, Sem.run_bind, hu]; rfl⟩
  case slice.nils.fs cs len =>
    cases len with
    | zero => cases h
    | succ k =>
    rcases hb with ⟨_, _, _, _, rfl, _⟩ | ⟨_, hk, _⟩
    rotate_left
    · cases hk
    cases h; subst ha; exact ⟨guard_other op (by simp) (by simp), fun w => eq_deep fun d => by rw [Op.equalIn, Sem.run_bind, hu]; rfl⟩
  case slice.ms.nils => obtain ⟨_, _, rfl, _⟩ := ha; subst hb h; exact ⟨guard_other op (by simp) (by simp), fun w => eq_deep fun d => by rw [Op.equalIn, Sem.run_bind, hu]; rfl⟩
  case slice.fs.nils cs len =>
    cases len with
    | zero => cases h
    | succ k =>
    rcases ha with ⟨_, _, _, _, rfl, _⟩ | ⟨_, hk, _⟩
    rotate_left
    · cases hk
    cases h; subst hb; exact ⟨guard_other op (by simp) (by simp), fun w => eq_deep fun d => by rw [Op.equalIn, Sem.run_bind, hu]; rfl⟩
  case interface.nili.nili =>
    subst ha hb
    cases hc : (isConstO x || isConstO y)
    · rw [hc] at h; cases h
    · rw [hc] at h; cases h
      exact ⟨guard_nil op hc, fun w => eq_deep fun d => by rw [Op.equalIn, Sem.run_bind, hu]; rfl⟩
  case interface.nili.iface => obtain ⟨_, rfl, _⟩ := hb; subst ha h; exact ⟨guard_other op (by simp) (by simp), fun w => eq_deep fun d => by rw [Op.equalIn, Sem.run_bind, hu]; rfl⟩
  case interface.iface.nili => obtain ⟨_, rfl, _⟩ := ha; subst hb h; exact ⟨guard_other op (by simp) (by simp), fun w => eq_deep fun d => by rw [Op.equalIn, Sem.run_bind, hu]; rfl⟩

theorem guard_int {t : TypeId} {x y : Operand} {op : BinOp} {k : IntKind} {n : Int} {vb : Value} (w : World) : (eqGuard op t x y (.int k n) vb).run P w = .ok () w := guard_other op (by simp) (by simp) w
theorem guard_str {t : TypeId} {x y : Operand} {op : BinOp} {s : ByteArray} {vb : Value} (w : World) : (eqGuard op t x y (.string s) vb).run P w = .ok () w := guard_other op (by simp) (by simp) w

theorem eqA_kind {d : TypeDesc} {c : Bool} {a b : AV} {r : Bool} {va : Value} (h : eqA d c a b = some r) (ha : VR E a va) :
    (∀ k n, va ≠ .int k n) ∧ (∀ k n, va ≠ .float k n) ∧ (∀ k n m, va ≠ .complex k n m) ∧ (∀ s, va ≠ .string s) := by
  refine ⟨fun k n e => ?_, fun k n e => ?_, fun k n m e => ?_, fun s e => ?_⟩ <;> subst e
  · rw [ha.int_inv] at h; cases b <;> simp [eqA] at h
  · exact VR.no_float ha
  · exact VR.no_complex ha
  · rw [ha.str_inv] at h; cases b <;> simp [eqA] at h

theorem part_cell {el : TypeId} {g : TE} (hg : te P el = some g) (ha : isAggD g.und = false) {cs : Array Value} {o : Nat} {v : Value} (h : cs[o]? = some v) (w : World) : (part el cs o).run P w = .ok v w := by
  simp only [part, Sem.run_bind, r_isAgg hg, Result.andThen_ok, ha, Bool.false_eq_true, if_false, h, Sem.run_pure, Sem.run_ite]
theorem equal_int {el : TypeId} {g : TE} {k0 : IntKind} (hg : te P el = some g) (hgd : g.und = .int k0) (d : Nat) (k : IntKind) (a b : Int) (w : World) : (Op.equalIn (d + 1) el (.int k a) (.int k b)).run P w = .ok (a == b) w := by
  have hu := r_und hg w
  rw [hgd] at hu
  rw [Op.equalIn, Sem.run_bind, hu]
  simp
theorem guard_int2 {el : TypeId} {g : TE} {k0 : IntKind} (hg : te P el = some g) (hgd : g.und = .int k0) (d : Nat) (k : IntKind) (a b : Int) (w : World) : (Op.eqGuardIn (d + 1) el (.int k a) (.int k b)).run P w = .ok false w := by
  have hu := r_und hg w
  rw [hgd] at hu
  rw [Op.eqGuardIn, Sem.run_bind, hu]
  simp
theorem equal_arr2 {t el : TypeId} {e g : TE} {k0 : IntKind} (he : te P t = some e) (hd : e.und = .array 2 el) (hg : te P el = some g) (hgd : g.und = .int k0) (hz : g.size = 1) (k k2 : IntKind) (a b c d : Int) (w : World) :
    (Op.equal t (.agg #[.int k a, .int k2 b]) (.agg #[.int k c, .int k2 d])).run P w = .ok (a == c && b == d) w := by
  have hu := r_und he w
  rw [hd] at hu
  have hag : isAggD g.und = false := by rw [hgd]; rfl
  have e1 : ∀ (k : IntKind) (a b : Int), (Op.equalIn 9999 el (.int k a) (.int k b)).run P w = .ok (a == b) w := fun k a b => equal_int hg hgd 9998 k a b w
  have p0 : ∀ (k k2 : IntKind) (a b : Int), (part el #[.int k a, .int k2 b] 0).run P w = .ok (.int k a) w := fun k k2 a b => part_cell hg hag rfl w
  have p1 : ∀ (k k2 : IntKind) (a b : Int), (part el #[.int k a, .int k2 b] 1).run P w = .ok (.int k2 b) w := fun k k2 a b => part_cell hg hag rfl w
  unfold Op.equal Op.maxDepth
  show (Op.equalIn (9999 + 1) t _ _).run P w = _
  rw [Op.equalIn, Sem.run_bind, hu]
  simp only [Result.andThen_ok, Sem.run_bind, r_size hg, hz]
  simp only [Std.Legacy.Range.forIn_eq_forIn_range', Std.Legacy.Range.size, List.range', List.forIn_cons, List.forIn_nil, Sem.run_bind, Sem.run_ite, Sem.run_pure, Result.andThen_ok, Nat.zero_mul, Nat.zero_add, Nat.one_mul, p0, e1]
  cases h1 : (a == c) <;> simp [Sem.run_bind, Sem.run_ite, Sem.run_pure, p1, e1]
  cases h2 : (b == d) <;> simp <;> simpa using h2
theorem guardIn_arr2 {t el : TypeId} {e g : TE} {k0 : IntKind} (he : te P t = some e) (hd : e.und = .array 2 el) (hg : te P el = some g) (hgd : g.und = .int k0) (hz : g.size = 1) (k k2 : IntKind) (a b c d : Int) (w : World) (n : Nat) :
    (Op.eqGuardIn (n + 1 + 1) t (.agg #[.int k a, .int k2 b]) (.agg #[.int k c, .int k2 d])).run P w = .ok false w := by
  have hu := r_und he w
  rw [hd] at hu
  have hag : isAggD g.und = false := by rw [hgd]; rfl
  have e1 : ∀ (k : IntKind) (a b : Int), (Op.eqGuardIn (n + 1) el (.int k a) (.int k b)).run P w = .ok false w := fun k a b => guard_int2 hg hgd n k a b w
  have p0 : ∀ (k k2 : IntKind) (a b : Int), (part el #[.int k a, .int k2 b] 0).run P w = .ok (.int k a) w := fun k k2 a b => part_cell hg hag rfl w
  have p1 : ∀ (k k2 : IntKind) (a b : Int), (part el #[.int k a, .int k2 b] 1).run P w = .ok (.int k2 b) w := fun k k2 a b => part_cell hg hag rfl w
  rw [Op.eqGuardIn, Sem.run_bind, hu]
  simp only [Result.andThen_ok, Sem.run_bind, r_size hg, hz]
  simp only [Std.Legacy.Range.forIn_eq_forIn_range', Std.Legacy.Range.size, List.range', List.forIn_cons, List.forIn_nil, Sem.run_bind, Sem.run_ite, Sem.run_pure, Result.andThen_ok, Nat.zero_mul, Nat.zero_add, Nat.one_mul, p0, e1]
  simp [Sem.run_bind, Sem.run_ite, Sem.run_pure, p1, e1]
theorem guard_deep {t : TypeId} {x y : Value} (h : ∀ d, (Op.eqGuardIn (d + 1 + 1) t x y).run P w = .ok false w) : (Op.eqGuardIn Op.maxDepth t x y).run P w = .ok false w := by
  unfold Op.maxDepth
  exact h 9998
theorem guard_agg {t : TypeId} {a b : Array Value} (h : (Op.eqGuardIn Op.maxDepth t (.agg a) (.agg b)).run P w = .ok false w) (op : BinOp) (x y : Operand) : (eqGuard op t x y (.agg a) (.agg b)).run P w = .ok () w := by
  unfold eqGuard
  rw [Sem.run_ite]
  by_cases hc : (!(op matches .eql | .neq)) = true
  · exact if_pos hc
  · refine (if_neg hc).trans ?_
    dsimp only
    generalize Op.eqGuardIn Op.maxDepth t (.agg a) (.agg b) = G at h ⊢
    have hp : (program).run P w = .ok P w := rfl
    generalize (unsupported (α := Unit) _) = U
    rw [Sem.run_bind, hp, Result.andThen_ok, Sem.run_bind, hp, Result.andThen_ok, Sem.run_ite]
    cases hq : P.eqGuardType P.depth t
    · exact if_pos rfl
    · refine (if_neg (show ¬ ((!true) = true) by decide)).trans ?_
      rw [Sem.run_bind, h, Result.andThen_ok, Sem.run_ite]
      exact if_neg (show ¬ (false = true) by decide)

theorem ints2_some {E : Gh} {xs : List AV} {k j : IntKind} {a b : Int} (h : ints2 xs = some (k, a, j, b)) {vs : Array Value} (hv : VRP E xs vs.toList) (hl : xs.length = vs.size) : vs = #[.int k a, .int j b] := by
  unfold ints2 at h
  split at h
  · cases h
    obtain ⟨l⟩ := vs
    match l, hv, hl with
    | [u, v], hv, _ =>
      simp only [VRP, VR, and_true] at hv
      obtain ⟨rfl, rfl⟩ := hv
      rfl
  · cases h
theorem arr2_rel {t : TypeId} {xs ys : List AV} {r : Bool} {va vb : Value} (h : arr2A P t xs ys = some r) (ha : VR E (.agg xs) va) (hb : VR E (.agg ys) vb) (op : BinOp) (x y : Operand) :
    (∀ w, (eqGuard op t x y va vb).run P w = .ok () w) ∧ (∀ w, (Op.equal t va vb).run P w = .ok r w) ∧ ∃ l, va = .agg l := by
  simp only [VR] at ha hb
  obtain ⟨A, rfl, ha, hla⟩ := ha
  obtain ⟨B, rfl, hb, hlb⟩ := hb
  unfold arr2A at h
  rw [ob_some] at h
  obtain ⟨e, he, h⟩ := h
  split at h
  · rename_i n el hd
    simp only [o2_eq, on3_eq, ob_some, chk_some, nbeq_iff] at h
    obtain ⟨_, hn, g, hg, h⟩ := h
    subst hn
    split at h
    · rename_i k0 hgd
      simp only [o2_eq, on3_eq, ob_some, chk_some, nbeq_iff, Bool.and_eq_true, decide_eq_true_eq, Option.some.injEq] at h
      obtain ⟨_, hz, ⟨k, a, j, b⟩, hp, ⟨k', c, j', d⟩, hq, _, ⟨e1, e2⟩, rfl⟩ := h
      dsimp only at e1 e2
      subst e1 e2
      have := ints2_some hp ha hla; subst this
      have := ints2_some hq hb hlb; subst this
      exact ⟨fun w => guard_agg (guard_deep fun n => guardIn_arr2 he hd hg hgd hz _ _ _ _ _ _ w n) op x y, fun w => equal_arr2 he hd hg hgd hz _ _ _ _ _ _ w, _, rfl⟩
    · cases h
  · cases h

theorem fields_rel {d D : Nat} {w : World} (ih : ∀ {t : TypeId} {x y : AV} {va vb : Value} {r : Bool}, eqS P d t x y = some r → VR E x va → VR E y vb →
      (Op.equalIn D t va vb).run P w = .ok r w ∧ (Op.eqGuardIn D t va vb).run P w = .ok false w)
    {xs ys : List AV} {va vb : Array Value} (ha : VRP E xs va.toList) (hb : VRP E ys vb.toList) : ∀ {l : List Field} {r : Bool}, eqFs P (eqS P d) xs ys l = some r →
    (forIn (m := Sem) l ((none : Option Bool), ()) fun f __s =>
              if f.name ≠ "_" then do
                let p ← part f.type va f.offset
                let q ← part f.type vb f.offset
                let b ← Op.equalIn D f.type p q
                if (!b) = true then pure (ForInStep.done (some false, ()))
                  else pure (ForInStep.yield (none, ()))
              else pure (ForInStep.yield (none, ()))).run P w = .ok (bif r then none else some false, ()) w ∧
    (forIn (m := Sem) l ((none : Option Bool), ()) fun f __s =>
              if f.name ≠ "_" then do
                let p ← part f.type va f.offset
                let q ← part f.type vb f.offset
                let b ← Op.eqGuardIn D f.type p q
                if b = true then pure (ForInStep.done (some true, ()))
                  else pure (ForInStep.yield (none, ()))
              else pure (ForInStep.yield (none, ()))).run P w = .ok (none, ()) w
  | [], r, h => by
    cases h
    exact ⟨rfl, rfl⟩
  | f :: l, r, h => by
    unfold eqFs at h
    by_cases hn : f.name = "_"
    · rw [decide_eq_true hn] at h; cases h
    · rw [decide_eq_false hn, cond_false] at h
      simp only [o2_eq, on3_eq, ob_some, Option.some.injEq] at h
      obtain ⟨e, he, a, h1, b, h2, r1, h3, r2, h4, rfl⟩ := h
      obtain ⟨u, pu, hu⟩ := run_part he h1 ha
      obtain ⟨v, pv, hv⟩ := run_part he h2 hb
      obtain ⟨k1, k2⟩ := ih h3 hu hv
      obtain ⟨i1, i2⟩ := fields_rel @ih ha hb h4
      simp only [List.forIn_cons, Sem.run_bind, if_pos hn, pu w, pv w, k1, k2, Result.andThen_ok, Bool.false_eq_true, if_false, Sem.run_pure]
      refine ⟨?_, i2⟩
      cases r1
      · simp [Sem.run_bind, Sem.run_pure]
      · simp only [Bool.not_true, Bool.false_eq_true, if_false, Sem.run_pure, Result.andThen_ok, Bool.true_and]
        exact i1
theorem eqS_rel : ∀ (d : Nat) {t : TypeId} {x y : AV} {va vb : Value} {r : Bool}, eqS P d t x y = some r → VR E x va → VR E y vb → ∀ (k : Nat) (w : World),
    (Op.equalIn (k + d) t va vb).run P w = .ok r w ∧ (Op.eqGuardIn (k + d) t va vb).run P w = .ok false w
  | 0, t, x, y, va, vb, r, h, _, _, k, w => by simp [eqS] at h
  | d + 1, t, x, y, va, vb, r, h, ha, hb, k, w => by
    have ih := fun {t : TypeId} {x y : AV} {va vb : Value} {r : Bool} (h : eqS P d t x y = some r) (ha : VR E x va) (hb : VR E y vb) => eqS_rel d h ha hb k w
    simp only [eqS, o2_eq, on3_eq, ob_some] at h
    obtain ⟨e, he, h⟩ := h
    have hu := r_und he w
    show (Op.equalIn (k + d + 1) t va vb).run P w = .ok r w ∧ (Op.eqGuardIn (k + d + 1) t va vb).run P w = .ok false w
    rw [Op.equalIn, Op.eqGuardIn, Sem.run_bind, Sem.run_bind, hu]
    generalize k + d = D at ih
    split at h
    · rename_i hd
      simp only [VR] at ha hb
      cases h; subst ha hb
      rw [hd]
      exact ⟨rfl, rfl⟩
    · rename_i hd
      simp only [chk_some, o2_eq, on3_eq, ob_some, decide_eq_true_eq, Option.some.injEq] at h
      obtain ⟨_, hk, rfl⟩ := h
      simp only [VR] at ha hb
      subst ha hb hk
      rw [hd]
      refine ⟨?_, rfl⟩
      simp
    · rename_i fs xs ys hd
      simp only [chk_some, o2_eq, on3_eq, ob_some, Bool.not_eq_true'] at h
      obtain ⟨_, hs, h⟩ := h
      simp only [VR] at ha hb
      obtain ⟨A, rfl, ha, hla⟩ := ha
      obtain ⟨B, rfl, hb, hlb⟩ := hb
      have pg : (Sem.program Sem.pure).run P w = .ok P w := by rw [Sem.run]; simp [Sem.run]
      obtain ⟨f1, f2⟩ := fields_rel (D := D) (w := w) @ih ha hb h
      rw [hd]
      simp only [Result.andThen_ok, program, Sem.run_bind, pg, hs, Bool.false_eq_true, if_false]
      rw [← Array.forIn_toList, ← Array.forIn_toList]
      refine ⟨?_, ?_⟩
      · refine (congrArg (fun z => Result.andThen z _) f1).trans ?_
        cases r <;> rfl
      · refine (congrArg (fun z => Result.andThen z _) f2).trans ?_
        rfl
    · cases h

theorem agg_rel {t : TypeId} {xs ys : List AV} {r : Bool} {va vb : Value} (h : aggA P t xs ys = some r) (ha : VR E (.agg xs) va) (hb : VR E (.agg ys) vb) (op : BinOp) (x y : Operand) :
    (∀ w, (eqGuard op t x y va vb).run P w = .ok () w) ∧ (∀ w, (Op.equal t va vb).run P w = .ok r w) ∧ ∃ l, va = .agg l := by
  unfold aggA at h
  split at h
  · rename_i r' h'
    cases h
    exact arr2_rel h' ha hb op x y
  · have k := fun w => eqS_rel 10 h ha hb 9990 w
    simp only [VR] at ha hb
    obtain ⟨A, rfl, ha, hla⟩ := ha
    obtain ⟨B, rfl, hb, hlb⟩ := hb
    have e : (9990 + 10 : Nat) = Op.maxDepth := rfl
    rw [e] at k
    refine ⟨fun w => guard_agg (k w).2 op x y, fun w => ?_, _, rfl⟩
    unfold Op.equal
    exact (k w).1

theorem samePA_rel {t : TypeId} {n o n' o' : Nat} {r : Bool} {va vb : Value} (h : samePA P t n o n' o' = some r) (ha : VR E (.mp n o) va) (hb : VR E (.mp n' o') vb) (op : BinOp) (x y : Operand) :
    (∀ w, (eqGuard op t x y va vb).run P w = .ok () w) ∧ (∀ w, (Op.equal t va vb).run P w = .ok r w) ∧ ∃ a, va = .pointer a := by
  unfold samePA at h
  rw [ob_some] at h
  obtain ⟨e, he, h⟩ := h
  split at h
  · rename_i el hd
    simp only [o2_eq, on3_eq, ob_some, chk_some, Bool.and_eq_true, nbeq_iff, Option.some.injEq] at h
    obtain ⟨g, hg, _, ⟨rfl, rfl⟩, rfl⟩ := h
    simp only [VR] at ha hb
    obtain ⟨_, rfl⟩ := ha
    obtain ⟨_, rfl⟩ := hb
    refine ⟨fun w => guard_other op (by simp) (by simp) w, fun w => eq_deep fun d => ?_, _, rfl⟩
    have hu := r_und he w
    rw [Op.equalIn, Sem.run_bind, hu, hd]
    simp [r_size hg, run_sameAddr_same]
  · cases h

theorem bin_does {op : BinOp} {t : TypeId} {x y : Operand} {a b z : AV} {va vb : Value} (h : binA P op t x y a b = some z) (ha : VR E a va) (hb : VR E b vb) (hr : HR E S.heap.get w) (pr : PR E w) :
    DoesV P (do eqGuard op t x y va vb; binOp op t va vb) E S w z S := by
  unfold binA at h
  split at h
  · split at h
    · simp only [o2_eq, on3_eq, ob_some, Option.some.injEq] at h
      obtain ⟨r, hq, rfl⟩ := h
      obtain ⟨h1, h2, l, rfl⟩ := agg_rel hq ha hb .eql x y
      refine DoesV.same hr pr ?_ (v' := .bool r) (by simp only [VR])
      have : binOp .eql t (.agg l) vb = (do pure (.bool (← Op.equal t (.agg l) vb))) := by
        unfold binOp; rfl
      simp [h1, this, h2]
    · simp only [o2_eq, on3_eq, ob_some, Option.some.injEq] at h
      obtain ⟨r, hq, rfl⟩ := h
      obtain ⟨h1, h2, l, rfl⟩ := agg_rel hq ha hb .neq x y
      refine DoesV.same hr pr ?_ (v' := .bool !r) (by simp only [VR])
      have : binOp .neq t (.agg l) vb = (do pure (.bool (!(← Op.equal t (.agg l) vb)))) := by
        unfold binOp; rfl
      simp [h1, this, h2]
    · cases h
  · rename_i k m k' n
    simp only [VR] at ha hb
    subst ha hb
    have key : ∃ v, (∀ w, (binOp op t (.int k m) (.int k' n)).run P w = .ok v w) ∧ VR E z v := by
      split at h
      · exact shift_rel t h
      · exact shift_rel t h
      · rename_i h1 h2
        split at h
        · rename_i hk
          subst hk
          exact intBin_rel t h ⟨h1, h2⟩
        · cases h
    obtain ⟨v, hv, hz⟩ := key
    exact DoesV.same hr pr (by simp [guard_int, hv]) hz
  · simp only [VR] at ha hb
    subst ha hb
    obtain ⟨v, hv, hz⟩ := strBin_rel (P := P) (E := E) t h
    exact DoesV.same hr pr (by simp [guard_str, hv]) hz
  · split at h
    · simp only [o2_eq, on3_eq, ob_some, Option.some.injEq] at h
      obtain ⟨r, hq, rfl⟩ := h
      obtain ⟨h1, h2, l, rfl⟩ := samePA_rel hq ha hb .eql x y
      refine DoesV.same hr pr ?_ (v' := .bool r) (by simp only [VR])
      have : binOp .eql t (.pointer l) vb = (do pure (.bool (← Op.equal t (.pointer l) vb))) := by
        unfold binOp; rfl
      simp [h1, this, h2]
    · simp only [o2_eq, on3_eq, ob_some, Option.some.injEq] at h
      obtain ⟨r, hq, rfl⟩ := h
      obtain ⟨h1, h2, l, rfl⟩ := samePA_rel hq ha hb .neq x y
      refine DoesV.same hr pr ?_ (v' := .bool !r) (by simp only [VR])
      have : binOp .neq t (.pointer l) vb = (do pure (.bool (!(← Op.equal t (.pointer l) vb)))) := by
        unfold binOp; rfl
      simp [h1, this, h2]
    · cases h
  · split at h
    · simp only [o2_eq, on3_eq, ob_some, Option.some.injEq] at h
      obtain ⟨e, he, r, hq, rfl⟩ := h
      obtain ⟨h1, h2⟩ := eq_rel he .eql hq ha hb
      obtain ⟨k1, k2, k3, k4⟩ := eqA_kind hq ha
      refine DoesV.same hr pr ?_ (v' := .bool r) (by simp only [VR])
      have : binOp .eql t va vb = (do pure (.bool (← Op.equal t va vb))) := by
        unfold binOp
        cases va <;> first | rfl | exact absurd rfl (k1 _ _) | exact absurd rfl (k2 _ _) | exact absurd rfl (k3 _ _ _) | exact absurd rfl (k4 _)
      simp [h1, this, h2]
    · simp only [o2_eq, on3_eq, ob_some, Option.some.injEq] at h
      obtain ⟨e, he, r, hq, rfl⟩ := h
      obtain ⟨h1, h2⟩ := eq_rel he .neq hq ha hb
      obtain ⟨k1, k2, k3, k4⟩ := eqA_kind hq ha
      refine DoesV.same hr pr ?_ (v' := .bool !r) (by simp only [VR])
      have : binOp .neq t va vb = (do pure (.bool (!(← Op.equal t va vb)))) := by
        unfold binOp
        cases va <;> first | rfl | exact absurd rfl (k1 _ _) | exact absurd rfl (k2 _ _) | exact absurd rfl (k3 _ _ _) | exact absurd rfl (k4 _)
      simp [h1, this, h2]
    · cases h

theorem un_does {op : UnOp} {a z : AV} {va : Value} (h : unA op a = some z) (ha : VR E a va) (hr : HR E S.heap.get w) (pr : PR E w) : DoesV P (Op.unary op va) E S w z S := by
  unfold unA at h
  split at h
  all_goals first
    | (cases h; simp only [VR] at ha; subst ha; exact DoesV.same hr pr (by simp only [Op.unary, Op.intArith, Op.intBits]; rfl) (by simp only [VR, bitsA]))
    | cases h

theorem MR.len : ∀ {es : List ME} {fs : List MapEntry}, MR E es fs → es.length = fs.length
  | [], [], _ => rfl
  | [], _ :: _, h => by simp only [MR] at h
  | _ :: _, [], h => by simp only [MR] at h
  | _ :: es, _ :: fs, h => by simp only [MR] at h; simp [MR.len h.2.2.2]

theorem HR.entries {n : Nat} {es : List ME} {c : Nat} (hr : HR E S.heap.get w) (h : entriesOf S n = some (es, c)) :
    ∃ arr, w.heap[E.blk n]? = some (.map arr c) ∧ MR E es arr.toList := by
  obtain ⟨_, o, ho, hb⟩ := hr.blk n _ (entriesOf_some h)
  simp only [BR] at hb
  obtain ⟨arr, rfl, hm⟩ := hb
  exact ⟨arr, ho, hm⟩

theorem run_getMap {r : Nat} {arr : Array MapEntry} {c : Nat} (h : w.heap[r]? = some (.map arr c)) : (getObj r).run P w = .ok (.map arr c) w := by
  simp [getObj, Sem.run, h]

theorem run_setMap {r : Nat} {arr : Array MapEntry} {c : Nat} (h : w.heap[r]? = some (.map arr c)) (o : Obj) : (setObj r o).run P w = .ok () { w with heap := w.heap.setIfInBounds r o } := by
  simp [setObj, Sem.run, h]

theorem len_does {t : TypeId} {ts : Array TypeId} {x z : AV} {v : Value} (ty : TypeId) (h0 : ts[0]? = some t) (h : lenA P S t x = some z) (hx : VR E x v) (hr : HR E S.heap.get w) (_pr : PR E w) :
    DoesR P (Builtin.len_ ts ty #[v]) E w z := by
  simp only [lenA, o2_eq, on3_eq, ob_some] at h
  obtain ⟨e, he, h⟩ := h
  have hu := r_und he w
  split at h
  all_goals first | (cases h; done) | skip
  case h_1 s hund => cases h; simp only [VR] at hx; subst hx; exact DoesR.of (v' := .int .i64 s.size) (by simp [Builtin.len_, h0, hu, hund, goInt]) (by simp only [VR])
  case h_2 n el hund => cases h; exact DoesR.of (v' := .int .i64 n) (by simp [Builtin.len_, h0, hu, hund, goInt]) (by simp only [VR])
  case h_3 el hund => cases h; simp only [VR] at hx; subst hx; exact DoesR.of (v' := .int .i64 0) (by simp [Builtin.len_, h0, hu, hund, goInt]) (by simp only [VR])
  case h_4 el n off len c zz hund => cases h; simp only [VR] at hx; obtain ⟨_, c, rfl, _⟩ := hx; exact DoesR.of (v' := .int .i64 len) (by simp [Builtin.len_, h0, hu, hund, goInt]) (by simp only [VR])
  case h_5 el cs len hund =>
    cases h; simp only [VR] at hx
    rcases hx with ⟨_, _, _, _, rfl, _⟩ | ⟨_, rfl, rfl⟩
    rotate_left
    · exact DoesR.of (v' := .int .i64 0) (by simp [Builtin.len_, h0, hu, hund, goInt]) (by simp only [VR]; rfl)
    exact DoesR.of (v' := .int .i64 len) (by simp [Builtin.len_, h0, hu, hund, goInt]) (by simp only [VR])
  case h_6 k el hund => cases h; simp only [VR] at hx; subst hx; exact DoesR.of (v' := .int .i64 0) (by simp [Builtin.len_, h0, hu, hund, goInt]) (by simp only [VR])
  case h_7 k el n hund =>
    simp only [o2_eq, on3_eq, ob_some, Option.some.injEq] at h
    obtain ⟨⟨es, c⟩, hes, rfl⟩ := h
    simp only [VR] at hx
    obtain ⟨_, rfl⟩ := hx
    obtain ⟨arr, ho, hm⟩ := hr.entries hes
    exact DoesR.of (v' := .int .i64 es.length) (by simp [Builtin.len_, h0, hu, hund, goInt, run_getMap ho, hm.len]) (by simp only [VR])

end
end Go.Eng
