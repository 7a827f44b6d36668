/-
  Package-level variables that nobody writes: what a row lists of them gives the engine's frozen values.
-/
import Derived.Test.YtjkdpgkpghcfbaaGreatDoorEngTop
import GoSem.ClaimJoined
set_option linter.unusedSimpArgs false
set_option linter.unusedVariables false
namespace Go.Eng
set_option linter.unusedSectionVars false
variable [Gl] [Mx]

noncomputable def convs (g : DataW Unit → Option (List AV)) : List (DataW Unit) → Option (List AV)
  | [] => some []
  | d :: ds => (g d).ob fun x => (convs g ds).ob fun y => some (x ++ y)

noncomputable def convF (P : Program) (g : TypeId → DataW Unit → Option (List AV)) : Nat → List Field → List (DataW Unit) → Option (List AV)
  | _, [], [] => some []
  | off, f :: fs, d :: ds => (chk (f.offset.beq off)).ob fun _ => (g f.type d).ob fun x => (chk (x.length.beq (P.cellsOf f.type))).ob fun _ =>
      (convF P g (off + P.cellsOf f.type) fs ds).ob fun y => some (x ++ y)
  | _, _, _ => none

/-- a datum as the engine's frozen cells -/
noncomputable def conv (P : Program) : Nat → TypeId → DataW Unit → Option (List AV)
  | 0, _, _ => none
  | f + 1, t, d => match P.underlying t, d with
    | some .bool, .lit (.bool b) => some [.bool b]
    | some (.int _), .lit (.int k n) => some [.int k n]
    | some .string, .lit (.string s) => some [.str ⟨s.toArray⟩]
    | some (.slice e), .slice (x :: xs) _ => (chk (Nat.blt 0 (P.cellsOf e))).ob fun _ => (convs (fun d => (conv P f e d).ob fun y => (chk (y.length.beq (P.cellsOf e))).ob fun _ => some y) (x :: xs)).ob fun cs => some [.fs cs (xs.length + 1)]
    | some (.struct fs), .agg ds => (convF P (conv P f) 0 fs.toList ds).ob fun r => (chk (r.length.beq (P.cellsOf t))).ob fun _ => some r
    | some (.array _ e), .agg ds => (convs (fun d => (conv P f e d).ob fun y => (chk (y.length.beq (P.cellsOf e))).ob fun _ => some y) ds).ob fun r => (chk (r.length.beq (P.cellsOf t))).ob fun _ => some r
    | _, _ => none

def allProt (w : World) (b : Nat) : Option (Array Value) := match w.heap[b]? with
  | some (.cells arr _ _) => some arr
  | _ => none

def Gh.all (w : World) : Gh := { dom := fun _ => False, blk := fun _ => 0, sh := fun _ => 0, bsz := fun _ => 0, prot := allProt w }

theorem all_blk (w : World) (b : Nat) (arr : Array Value) (h : (Gh.all w).prot b = some arr) : ∃ el fz, w.heap[b]? = some (.cells arr el fz) := by
  have h : allProt w b = some arr := h
  unfold allProt at h
  split at h
  · rename_i c el fz hw; cases h; exact ⟨el, fz, hw⟩
  · cases h

theorem cell_prot {w : World} {a : Addr} {v : Value} (h : w.cell? a = some v) : a.spot = none ∧ ∃ arr, allProt w a.block = some arr ∧ arr[a.off]? = some v := by
  unfold World.cell? at h
  split at h
  · rename_i c el fz hw
    split at h
    · cases h
    · rename_i hs
      refine ⟨by cases hsp : a.spot <;> simp_all, c, by unfold allProt; rw [hw], h⟩
  · cases h

theorem cells_prot {w : World} {base : Nat} {a : Addr} {n : Nat} {cs : List Value} (h : w.cells? base a n = some cs) (hn : 0 < n) :
    a.spot = none ∧ ∃ arr, allProt w a.block = some arr ∧ cs = (arr.toList.drop a.off).take n ∧ cs.length = n := by
  unfold World.cells? at h
  split at h
  · have at' : ∀ (l : List Nat) (r : List Value), l.mapM (fun i => w.cell? (a.add i)) = some r → r.length = l.length ∧ ∀ (i k : Nat), l[i]? = some k → ∃ v, r[i]? = some v ∧ w.cell? (a.add k) = some v := by
      intro l
      induction l with
      | nil => intro r h; simp at h; subst h; simp
      | cons x l ih =>
        intro r h
        simp only [List.mapM_cons, Option.bind_eq_bind, Option.bind_eq_some_iff, Option.pure_def, Option.some.injEq] at h
        obtain ⟨v, hv, r', hr', rfl⟩ := h
        obtain ⟨h1, h2⟩ := ih r' hr'
        refine ⟨by simp [h1], fun i k hk => ?_⟩
        cases i with
        | zero => simp at hk; subst hk; exact ⟨v, rfl, hv⟩
        | succ i => simpa using h2 i k (by simpa using hk)
    obtain ⟨hl, hat⟩ := at' _ _ h
    obtain ⟨v0, _, hc0⟩ := hat 0 0 (by simp [hn])
    have e0 : a.add 0 = a := by simp [Addr.add]
    rw [e0] at hc0
    obtain ⟨hs, arr, harr, _⟩ := cell_prot hc0
    refine ⟨hs, arr, harr, ?_, by simpa using hl⟩
    have each : ∀ i, i < n → cs[i]? = arr[a.off + i]? ∧ (arr[a.off + i]?).isSome := by
      intro i hi
      obtain ⟨v, hv, hc⟩ := hat i i (by simp [hi])
      obtain ⟨_, arr', harr', hv'⟩ := cell_prot hc
      have eb : (a.add i).block = a.block := by unfold Addr.add; split <;> rfl
      have eo : (a.add i).off = a.off + i := by unfold Addr.add; split <;> simp_all
      rw [eb, harr] at harr'
      cases harr'
      rw [eo] at hv'
      exact ⟨by rw [hv, hv'], by rw [hv']; rfl⟩
    have hlen : cs.length = n := by simpa using hl
    apply List.ext_getElem?
    intro i
    by_cases hi : i < n
    · rw [(each i hi).1, List.getElem?_take, if_pos hi, List.getElem?_drop, Array.getElem?_toList]
    · rw [List.getElem?_eq_none (by omega), List.getElem?_take, if_neg hi]
  · cases h

theorem mapM_cons_some {α β : Type} {f : α → Option β} {x : α} {l : List α} {r : List β} (h : (x :: l).mapM f = some r) : ∃ y ys, f x = some y ∧ l.mapM f = some ys ∧ r = y :: ys := by
  simp only [List.mapM_cons, Option.bind_eq_bind, Option.bind_eq_some_iff, Option.pure_def, Option.some.injEq] at h
  obtain ⟨y, hy, ys, hys, rfl⟩ := h
  exact ⟨y, ys, hy, hys, rfl⟩

theorem elems_vr {P : Program} {w : World} {base : Nat} {e : TypeId} {a : Addr} {arr : Array Value} {tr : List Value → Option (DataW Unit × List MemPlace)} {g : DataW Unit → Option (List AV)} (hz : 0 < P.cellsOf e) (harr : allProt w a.block = some arr)
    (htr : ∀ cs d ps, tr cs = some (d, ps) → ∀ xs, g d = some xs → VRP (Gh.all w) xs cs ∧ xs.length = cs.length) :
    ∀ (n i : Nat) (el : List (DataW Unit × List MemPlace)), (List.range' i n).mapM (fun i => (w.cells? base (a.add (i * P.cellsOf e)) (P.cellsOf e)).bind tr) = some el → ∀ ys, convs g (el.map (·.1)) = some ys →
      VRP (Gh.all w) ys (arr.toList.drop (a.off + i * P.cellsOf e))
  | 0, i, el, h, ys, hy => by
    simp at h
    subst h
    simp only [List.map_nil, convs, Option.some.injEq] at hy
    subst hy
    exact VRP.nil
  | n + 1, i, el, h, ys, hy => by
    rw [List.range'_succ] at h
    obtain ⟨y, el', h1, h2, rfl⟩ := mapM_cons_some h
    simp only [List.map_cons, convs, o2_eq, on3_eq, ob_some, Option.some.injEq] at hy
    obtain ⟨x, hx, ys', hys, rfl⟩ := hy
    have hrest := elems_vr hz harr htr n (i + 1) el' h2 ys' hys
    obtain ⟨cs, hcs, hd⟩ := Option.bind_eq_some_iff.1 h1
    obtain ⟨_, arr', harr', hc, hl⟩ := cells_prot hcs hz
    have eb : (a.add (i * P.cellsOf e)).block = a.block := by unfold Addr.add; split <;> rfl
    have eo : (a.add (i * P.cellsOf e)).off = a.off + i * P.cellsOf e := by unfold Addr.add; split <;> simp_all
    rw [eb, harr] at harr'
    cases harr'
    rw [eo] at hc
    obtain ⟨hv, hvl⟩ := htr cs y.1 y.2 hd x hx
    rw [← List.take_append_drop (P.cellsOf e) (arr.toList.drop (a.off + i * P.cellsOf e)), ← hc]
    refine VRP.append hv hvl ?_
    rw [List.drop_drop]
    have : a.off + i * P.cellsOf e + P.cellsOf e = a.off + (i + 1) * P.cellsOf e := by rw [Nat.succ_mul]; omega
    rw [this]
    exact hrest

theorem fields_vr {P : Program} {w : World} {cs : List Value} {tr : TypeId → List Value → Option (DataW Unit × List MemPlace)} {g : TypeId → DataW Unit → Option (List AV)}
    (htr : ∀ t cs d ps, tr t cs = some (d, ps) → ∀ xs, g t d = some xs → VRP (Gh.all w) xs cs ∧ xs.length = cs.length) :
    ∀ (fs : List Field) (off : Nat) (el : List (DataW Unit × List MemPlace)), fs.mapM (fun f => tr f.type ((cs.drop f.offset).take (P.cellsOf f.type))) = some el → ∀ ys, convF P g off fs (el.map (·.1)) = some ys →
      VRP (Gh.all w) ys (cs.drop off)
  | [], off, el, h, ys, hy => by
    simp at h
    subst h
    simp only [List.map_nil, convF, Option.some.injEq] at hy
    subst hy
    exact VRP.nil
  | f :: fs, off, el, h, ys, hy => by
    obtain ⟨y, el', h1, h2, rfl⟩ := mapM_cons_some h
    simp only [List.map_cons, convF, o2_eq, on3_eq, ob_some, chk_some, nbeq_iff, Option.some.injEq] at hy
    obtain ⟨_, ho, x, hx, _, hl, ys', hys, rfl⟩ := hy
    have hrest := fields_vr htr fs _ el' h2 ys' hys
    obtain ⟨hv, hvl⟩ := htr _ _ y.1 y.2 h1 x hx
    rw [← List.take_append_drop (P.cellsOf f.type) (cs.drop off)]
    rw [ho] at hv hvl
    refine VRP.append hv hvl ?_
    rw [List.drop_drop]
    exact hrest

theorem parts_vr {w : World} {sz : Nat} {cs : List Value} {tr : List Value → Option (DataW Unit × List MemPlace)} {g : DataW Unit → Option (List AV)}
    (htr : ∀ cs d ps, tr cs = some (d, ps) → ∀ xs, g d = some xs → VRP (Gh.all w) xs cs ∧ xs.length = cs.length ∧ xs.length = sz) :
    ∀ (n i : Nat) (el : List (DataW Unit × List MemPlace)), (List.range' i n).mapM (fun i => tr ((cs.drop (i * sz)).take sz)) = some el → ∀ ys, convs g (el.map (·.1)) = some ys → VRP (Gh.all w) ys (cs.drop (i * sz))
  | 0, i, el, h, ys, hy => by
    simp at h
    subst h
    simp only [List.map_nil, convs, Option.some.injEq] at hy
    subst hy
    exact VRP.nil
  | n + 1, i, el, h, ys, hy => by
    rw [List.range'_succ] at h
    obtain ⟨y, el', h1, h2, rfl⟩ := mapM_cons_some h
    simp only [List.map_cons, convs, o2_eq, on3_eq, ob_some, Option.some.injEq] at hy
    obtain ⟨x, hx, ys', hys, rfl⟩ := hy
    have hrest := parts_vr htr n (i + 1) el' h2 ys' hys
    obtain ⟨hv, hvl, _⟩ := htr _ y.1 y.2 h1 x hx
    rw [← List.take_append_drop sz (cs.drop (i * sz))]
    refine VRP.append hv hvl ?_
    rw [List.drop_drop]
    have : i * sz + sz = (i + 1) * sz := by rw [Nat.succ_mul]
    rw [this]
    exact hrest

theorem trod_vr {P : Program} {w : World} {base : Nat} {sp : Nat → Bool} : ∀ (fuel : Nat) (t : TypeId) (cs : List Value) (d : DataW Unit) (ps : List MemPlace), DataW.trod (fun _ => ()) P w base sp false fuel t cs = some (d, ps) →
    ∀ (f : Nat) (xs : List AV), conv P f t d = some xs → VRP (Gh.all w) xs cs ∧ xs.length = cs.length
  | 0, _, _, _, _, h, _, _, _ => by simp [DataW.trod] at h
  | fuel + 1, t, cs, d, ps, h, 0, xs, hc => by simp [conv] at hc
  | fuel + 1, t, cs, d, ps, h, f + 1, xs, hc => by
    have ih := trod_vr (P := P) (w := w) (base := base) (sp := sp) fuel
    unfold conv at hc
    split at hc
    · rename_i b hu
      cases hc
      simp only [DataW.trod, hu] at h
      split at h <;> simp_all [VRP, VR]
    · rename_i k0 k n hu
      cases hc
      simp only [DataW.trod, hu] at h
      split at h <;> simp_all [VRP, VR]
    · rename_i s hu
      cases hc
      simp only [DataW.trod, hu] at h
      split at h <;> simp_all [VRP, VR]
      obtain ⟨_, rfl, _⟩ := h
      rfl
    · rename_i e x xs' spare hu
      simp only [o2_eq, on3_eq, ob_some, chk_some, nblt_iff, Option.some.injEq] at hc
      obtain ⟨_, hz, ys, hys, rfl⟩ := hc
      unfold DataW.trod at h
      rw [hu] at h
      split at h <;> rename_i heq <;> first | (cases heq; done) | skip
      all_goals first | (simp at h; done) | skip
      · rename_i a len cap
        cases heq
        split at h
        · rename_i hb
          obtain ⟨el, hel, h⟩ := Option.bind_eq_some_iff.1 h
          obtain ⟨rest, _, h⟩ := Option.map_eq_some_iff.1 h
          simp only [Prod.mk.injEq, DataW.slice.injEq] at h
          obtain ⟨⟨he, _⟩, _⟩ := h
          have hlen : el.length = len := by
            have : ∀ (l : List Nat) (r : List (DataW Unit × List MemPlace)) (f : Nat → Option (DataW Unit × List MemPlace)), l.mapM f = some r → r.length = l.length := by
              intro l
              induction l with
              | nil => intro r f h; simp at h; subst h; rfl
              | cons x l ih => intro r f h; obtain ⟨y, ys, _, h2, rfl⟩ := mapM_cons_some h; simp [ih _ _ h2]
            simpa using this _ _ _ hel
          have hl2 : len = xs'.length + 1 := by
            have := congrArg List.length he
            simp at this; omega
          have hel0 := hel
          rw [List.range_eq_range', hl2, List.range'_succ] at hel0
          obtain ⟨y0, _, h0, _, _⟩ := mapM_cons_some hel0
          obtain ⟨cs0, hcs0, _⟩ := Option.bind_eq_some_iff.1 h0
          have ea : a.add (0 * P.cellsOf e) = a := by simp [Addr.add]
          rw [ea] at hcs0
          obtain ⟨hsp, arr, harr, _, _⟩ := cells_prot hcs0 hz
          rw [List.range_eq_range'] at hel
          rw [← he] at hys
          have key := elems_vr (g := fun d => (conv P f e d).ob fun y => (chk (y.length.beq (P.cellsOf e))).ob fun _ => some y) hz harr (fun cs d ps hd xs hx => by
            simp only [o2_eq, on3_eq, ob_some, chk_some, Option.some.injEq] at hx
            obtain ⟨y, hy, _, _, rfl⟩ := hx
            exact ih e cs d ps hd f y hy) _ _ _ hel _ hys
          rw [Nat.zero_mul, Nat.add_zero] at key
          obtain ⟨ab, ao, asp⟩ := a
          simp only at hsp harr key
          subst hsp
          refine ⟨?_, rfl⟩
          simp only [VRP, VR, and_true]
          exact .inl ⟨ab, ao, none, cap, by rw [hl2], by omega, .inr ⟨rfl, arr, harr, key⟩⟩
        · cases h
    · rename_i fs ds hu
      simp only [o2_eq, on3_eq, ob_some, chk_some, nbeq_iff, Option.some.injEq] at hc
      obtain ⟨r, hr, _, hl, rfl⟩ := hc
      unfold DataW.trod at h
      rw [hu] at h
      split at h <;> rename_i heq <;> first | (cases heq; done) | skip
      all_goals first | (simp at h; done) | skip
      · rename_i cs
        cases heq
        split at h
        · rename_i hcl
          obtain ⟨el, hel, h⟩ := Option.map_eq_some_iff.1 h
          simp only [Prod.mk.injEq, DataW.agg.injEq] at h
          obtain ⟨he, _⟩ := h
          rw [← he] at hr
          have key := fields_vr (w := w) (g := conv P f) (fun t cs d ps hd xs hx => ih t cs d ps hd f xs hx) _ _ _ hel _ hr
          rw [List.drop_zero] at key
          exact ⟨key, by omega⟩
        · cases h
      · exact (‹∀ fs_1 : Array Field, some (TypeDesc.struct fs) = some (TypeDesc.struct fs_1) → False› fs rfl).elim
    · rename_i n e ds hu
      simp only [o2_eq, on3_eq, ob_some, chk_some, nbeq_iff, Option.some.injEq] at hc
      obtain ⟨r, hr, _, hl, rfl⟩ := hc
      unfold DataW.trod at h
      rw [hu] at h
      split at h <;> rename_i heq <;> first | (cases heq; done) | skip
      all_goals first | (simp at h; done) | skip
      · rename_i cs
        cases heq
        split at h
        · rename_i hcl
          obtain ⟨el, hel, h⟩ := Option.map_eq_some_iff.1 h
          simp only [Prod.mk.injEq, DataW.agg.injEq] at h
          obtain ⟨he, _⟩ := h
          rw [← he] at hr
          rw [List.range_eq_range'] at hel
          have key := parts_vr (w := w) (g := fun d => (conv P f e d).ob fun y => (chk (y.length.beq (P.cellsOf e))).ob fun _ => some y) (fun cs d ps hd xs hx => by
            simp only [o2_eq, on3_eq, ob_some, chk_some, nbeq_iff, Option.some.injEq] at hx
            obtain ⟨y, hy, _, hyl, rfl⟩ := hx
            obtain ⟨h1, h2⟩ := ih e cs d ps hd f y hy
            exact ⟨h1, h2, hyl⟩) _ _ _ hel _ hr
          rw [Nat.zero_mul, List.drop_zero] at key
          exact ⟨key, by omega⟩
        · cases h
      · exact (‹∀ (n_1 : Nat) (e_1 : TypeId), some (TypeDesc.array n e) = some (TypeDesc.array n_1 e_1) → False› n e rfl).elim
    · cases hc

/-- every listed variable, in the list's order -/
theorem laid_vars {P : Program} {w : World} : ∀ {laid : List (String × DataW Unit)} {ps : List MemPlace}, DataW.LaidVars P w laid ps → ∀ n d, (n, d) ∈ laid → ∀ g t, P.globalNamed n = some g → (P.globals[g]?).map (·.type) = some t →
    ∀ f xs, conv P f t d = some xs → VR (Gh.all w) (.fp xs) (.pointer (some ⟨g, 0, none⟩))
  | [], _, _, n, d, hm, _, _, _, _, _, _, _ => by simp at hm
  | (n0, d0) :: r, ps, h, n, d, hm, g, t, hg, ht, f, xs, hc => by
    obtain ⟨g', t', cs, fuel, p, q, hg', ht', hv, htr, hr, _⟩ := h
    rcases List.mem_cons.1 hm with e | hm
    · cases e
      rw [hg] at hg'; cases hg'
      rw [ht] at ht'; cases ht'
      obtain ⟨hx, _⟩ := trod_vr fuel _ cs.toList _ p htr f xs hc
      unfold World.var? at hv
      rw [hg] at hv
      simp only [Option.bind_some] at hv
      split at hv
      · rename_i arr el fz hw
        cases hv
        simp only [VR]
        exact ⟨g, 0, rfl, cs, by show allProt w g = some cs; unfold allProt; rw [hw], by have hx' : VRP (Gh.all w).ice xs cs.toList := hx; simpa using hx'⟩
      · cases hv
    · exact laid_vars hr n d hm g t hg ht f xs hc

def laid_of {w : World} (h : ∀ g v, Gl.g g = some v → VR (Gh.all w) v (.pointer (some ⟨g, 0, none⟩))) : Laid w := ⟨allProt w, ⟨all_blk w, h⟩⟩
end Go.Eng
