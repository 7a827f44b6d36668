import Derived.Test.YtipafbfdjfbkbaaGreatDoorE2Run
set_option linter.unusedVariables false
set_option linter.unusedSectionVars false
open Nat (lt_of_lt_of_le one_pos le_refl)
open List (mem_singleton flatMap_nil flatMap_cons flatMap)
open Option.some (injEq inj)
namespace Go.Eng

theorem Zal {a b : Ty} {x : a.den} {y : b.den} (h : Za7 a b x = some y) : ∃ e : a = b, e ▸ x = y := by
  unfold Za7 at h;cases he : Ty.eq? a b with
  | none => rw [he] at h; cases h
  | some p => rw [he] at h; exact ⟨p.down, inj h⟩
theorem Zca {a : Ty} {x y : a.den} (h : Za7 a a x = some y) : x = y := by
  obtain ⟨e, h⟩ := Zal h;exact h
theorem Za1 {a b : Ty} {x : (Ty.list a).den} {y : (Ty.list b).den} (h : Za7 (.list a) (.list b) x = some y) : ∃ e : a = b, (e ▸ x : List b.den) = y := by
  obtain ⟨e, h⟩ := Zal h;cases e;exact ⟨rfl, h⟩

theorem Zbb.cellsL_eq : ∀ l : List Zbb, Zbb.cellsL l = l.flatMap Zbb.cells
  | [] => by simp only [Zbb.cellsL, flatMap_nil]
  | t :: l => by simp only [Zbb.cellsL, flatMap_cons, Zbb.cellsL_eq l]
theorem ExT.cellsL_eq : ∀ l : List ExT, ExT.cellsL l = l.flatMap ExT.cells
  | [] => by simp only [ExT.cellsL, flatMap_nil]
  | t :: l => by simp only [ExT.cellsL, flatMap_cons, ExT.cellsL_eq l]
theorem SmT.cellsL_eq : ∀ l : List SmT, SmT.cellsL l = l.flatMap SmT.cells
  | [] => by simp only [SmT.cellsL, flatMap_nil]
  | t :: l => by simp only [SmT.cellsL, flatMap_cons, SmT.cellsL_eq l]
theorem PaT.cellsL_eq : ∀ l : List PaT, PaT.cellsL l = l.flatMap PaT.cells
  | [] => by simp only [PaT.cellsL, flatMap_nil]
  | t :: l => by simp only [PaT.cellsL, flatMap_cons, PaT.cellsL_eq l]
theorem ReT.cellsL_eq : ∀ l : List ReT, ReT.cellsL l = l.flatMap ReT.cells
  | [] => by simp only [ReT.cellsL, flatMap_nil]
  | t :: l => by simp only [ReT.cellsL, flatMap_cons, ReT.cellsL_eq l]
theorem ReS.cells_eq (x : ReS) : ReS.cells x = RSW.cells x := rfl
theorem ExW.cells_eq (x : ExW) : ExW.cells x = EW.cells x := by unfold ExW.cells; rw [ExT.cellsL_eq]; rfl
theorem TK.unf_cells : ∀ (k : TK) (x : k.den), k.cells x = k.W.cells (k.unf x)
  | .sea, .mk k c l => by show Zbb.cells _ = _; rw [Zbb.cells, Zbb.cellsL_eq]; rfl
  | .exp, .mk k n s o l => by show ExT.cells _ = _; rw [ExT.cells, ExT.cellsL_eq]; rfl
  | .stm, .mk k s t n a v g x y => by show SmT.cells _ = _; rw [SmT.cells, ExW.cells_eq, ExW.cells_eq, ExT.cellsL_eq, SmT.cellsL_eq, SmT.cellsL_eq]; rfl
  | .pat, .mk v o m w l => by show PaT.cells _ = _; rw [PaT.cells, PaT.cellsL_eq]; rfl
  | .res, .mk n s l => by show ReT.cells _ = _; rw [ReT.cells, ReS.cells_eq, ReT.cellsL_eq]; rfl
theorem TK.unf_fold : ∀ (k : TK) (x : k.W.den), k.unf (k.fold x) = x
  | .sea, _ => rfl
  | .exp, _ => rfl
  | .stm, _ => rfl
  | .pat, _ => rfl
  | .res, _ => rfl
theorem TK.fold_cells (k : TK) (x : k.W.den) : k.cells (k.fold x) = k.W.cells x := by rw [TK.unf_cells, TK.unf_fold]
theorem TK.size_eq : ∀ k : TK, k.W.size = k.size
  | .sea => rfl
  | .exp => rfl
  | .stm => rfl
  | .pat => rfl
  | .res => rfl
def Ty.noT : Ty → Bool
  | .prod a b => a.noT && b.noT
  | .st t => t.noT
  | .tree _ => false
  | _ => true
theorem TK.noT : ∀ k : TK, k.W.noT = true
  | .sea => rfl
  | .exp => rfl
  | .stm => rfl
  | .pat => rfl
  | .res => rfl
def Ty.rk : Ty → Nat
  | .prod a b => a.rk + b.rk + 1
  | .st t => t.rk + 1
  | .tree _ => 1000
  | _ => 1
theorem TK.rk : ∀ k : TK, k.W.rk < 1000
  | .sea => by decide
  | .exp => by decide
  | .stm => by decide
  | .pat => by decide
  | .res => by decide
theorem Ty.ind {motive : Ty → Prop} (int : ∀ k, motive (.int k)) (bool : motive .bool) (str : motive .str) (tree : ∀ k : TK, motive k.W → motive (.tree k)) (list : ∀ t, motive (.list t)) (prod : ∀ p q, motive p → motive q → motive (.prod p q)) (st : ∀ t, motive t → motive (.st t)) (ptr : ∀ t, motive (.ptr t)) (optr : ∀ t, motive (.optr t)) (opq : ∀ z, motive (.opq z)) : ∀ t, motive t
  | .int k => int k
  | .bool => bool
  | .str => str
  | .tree k => tree k (Ty.ind int bool str tree list prod st ptr optr opq k.W)
  | .list t => list t
  | .prod a b => prod a b (Ty.ind int bool str tree list prod st ptr optr opq a) (Ty.ind int bool str tree list prod st ptr optr opq b)
  | .st t => st t (Ty.ind int bool str tree list prod st ptr optr opq t)
  | .ptr t => ptr t
  | .optr t => optr t
  | .opq z => opq z
termination_by t => t.rk
decreasing_by all_goals first | exact TK.rk _ | (simp only [Ty.rk]; omega)
theorem Ty.cells0_eq : ∀ (t : Ty) (x : t.den), t.noT = true → t.cells0 x = t.cells2 x
  | .prod a b, x, h => by
    simp only [Ty.noT, Bool.and_eq_true] at h;simp only [Ty.cells0, Ty.cells2, Ty.cells0_eq a x.1 h.1, Ty.cells0_eq b x.2 h.2]
  | .st t, x, h => Ty.cells0_eq t x h
  | .tree _, _, h => by cases h
  | .int _, _, _ => rfl
  | .bool, _, _ => rfl
  | .str, _, _ => rfl
  | .list _, _, _ => rfl
  | .ptr _, _, _ => rfl
  | .optr _, _, _ => rfl
  | .opq _, x, _ => nomatch x
theorem Ty.cells2_tree (k : TK) (x : k.den) : Ty.cells2 (.tree k) x = k.W.cells2 (k.unf x) := Ty.cells0_eq _ _ k.noT
theorem Ty.cells_tree (k : TK) (x : k.den) : Ty.cells (.tree k) x = k.W.cells (k.unf x) := k.unf_cells x
theorem ZGQ : ∀ (t : Ty) (l : List V2), t.noT = true → ZI6 t l = asm t l
  | .prod a b, l, h => by
    simp only [Ty.noT, Bool.and_eq_true] at h;simp only [ZI6, asm, ZGQ a _ h.1, ZGQ b _ h.2]
  | .st t, l, h => ZGQ t l h
  | .tree _, _, h => by cases h
  | .int _, _, _ => rfl
  | .bool, _, _ => rfl
  | .str, _, _ => rfl
  | .list _, _, _ => rfl
  | .ptr _, _, _ => rfl
  | .optr _, _, _ => rfl
  | .opq _, _, _ => rfl
theorem ZGR (g : FzT) : ∀ (t : Ty) (l : List V2) (H : Tr C2), t.noT = true → ZI7 g t l H = fzC g t l H
  | .prod a b, l, H, h => by
    simp only [Ty.noT, Bool.and_eq_true] at h;simp only [ZI7, fzC, fun l H => ZGR g a l H h.1, fun l H => ZGR g b l H h.2]
  | .st t, l, H, h => ZGR g t l H h
  | .tree _, _, _, h => by cases h
  | .int _, _, _, _ => rfl
  | .bool, _, _, _ => rfl
  | .str, _, _, _ => rfl
  | .list _, _, _, _ => rfl
  | .ptr _, _, _, _ => rfl
  | .optr _, _, _, _ => rfl
  | .opq _, _, _, _ => rfl
theorem ZHH (k : TK) (l : List V2) : asm (.tree k) l = (asm k.W l).ob fun y => some (k.fold y) := by rw [← ZGQ _ _ k.noT]; rfl
theorem ZGS (g : FzT) (k : TK) (l : List V2) (H : Tr C2) : fzC g (.tree k) l H = (fzC g k.W l H).ob fun p => some (k.fold p.1, p.2) := by rw [← ZGR _ _ _ _ k.noT]; rfl
theorem Ty.cells_len : ∀ (t : Ty) (x : t.den), (t.cells x).length = t.size
  | .int _, _ => rfl
  | .bool, _ => rfl
  | .str, _ => rfl
  | .tree k, x => by rw [Ty.cells_tree]; cases k <;> rfl
  | .list _, _ => rfl
  | .prod a b, x => by simp only [Ty.cells, List.length_append, Ty.size, Ty.cells_len a, Ty.cells_len b]
  | .st t, x => Ty.cells_len t x
  | .ptr _, _ => rfl
  | .optr _, x => by cases x <;> rfl
  | .opq _, x => nomatch x
theorem Ty.size_pos : ∀ t : Ty, 0 < t.size
  | .prod a b => by have := Ty.size_pos a; simp only [Ty.size]; omega
  | .st t => Ty.size_pos t
  | .int _ => one_pos
  | .bool => one_pos
  | .str => one_pos
  | .tree k => by cases k <;> decide
  | .list _ => one_pos
  | .ptr _ => one_pos
  | .optr _ => one_pos
  | .opq _ => one_pos
theorem Ty.enc_cells (t : Ty) (x : t.den) (h : t.agg = false) (hs : t.size = 1) : t.cells x = [t.enc x] := by
  have hl := Ty.cells_len t x;rw [hs] at hl;unfold Ty.enc;rw [h]
  match hc : t.cells x, hl with
  | [c], _ => rfl

def NR (c v : AV) : Prop := v = c ∨ (c = .fs [] 0 ∧ v = .nils)
inductive NRs : List AV → List AV → Prop
  | nil : NRs [] []
  | cons {c v : AV} {cs vs : List AV} : NR c v → NRs cs vs → NRs (c :: cs) (v :: vs)
theorem NR.refl (c : AV) : NR c c := .inl rfl
theorem NRs.refl : ∀ cs, NRs cs cs
  | [] => .nil
  | c :: cs => .cons (.refl c) (.refl cs)
theorem NRs.length {cs vs : List AV} (h : NRs cs vs) : vs.length = cs.length := by
  induction h with
  | nil => rfl
  | cons _ _ ih => simp [ih]
theorem NRs.append {a b c d : List AV} (h : NRs a b) (i : NRs c d) : NRs (a ++ c) (b ++ d) := by
  induction h with
  | nil => exact i
  | cons h _ ih => exact .cons h ih
theorem NRs.split : ∀ {a c vs : List AV}, NRs (a ++ c) vs → ∃ b d, vs = b ++ d ∧ NRs a b ∧ NRs c d
  | [], c, vs, h => ⟨[], vs, rfl, .nil, h⟩
  | x :: a, c, _, .cons h hs => by
    obtain ⟨b, d, rfl, h1, h2⟩ := NRs.split hs;exact ⟨_ :: b, d, rfl, .cons h h1, h2⟩
theorem NRs.take {a b : List AV} (h : NRs a b) (n : Nat) : NRs (a.take n) (b.take n) := by
  induction h generalizing n with
  | nil => simp; exact .nil
  | cons h _ ih => cases n with
    | zero => exact .nil
    | succ n => exact .cons h (ih n)
theorem NRs.drop {a b : List AV} (h : NRs a b) (n : Nat) : NRs (a.drop n) (b.drop n) := by
  induction h generalizing n with
  | nil => simp; exact .nil
  | cons h hs ih => cases n with
    | zero => exact .cons h hs
    | succ n => exact ih n
theorem NRs.one {c v : AV} (h : NRs [c] [v]) : NR c v := by cases h; assumption
theorem NRs.get {a b : List AV} (h : NRs a b) {n : Nat} {c : AV} (hc : a[n]? = some c) : ∃ v, b[n]? = some v ∧ NR c v := by
  induction h generalizing n with
  | nil => simp at hc
  | cons h _ ih => cases n with
    | zero => simp at hc; subst hc; exact ⟨_, rfl, h⟩
    | succ n => exact ih (by simpa using hc)
theorem Zws {c v : AV} (h : NR c v) (ho : c.one = true) : v.one = true := by
  rcases h with rfl | ⟨rfl, rfl⟩ <;> first | exact ho | rfl
theorem Zda : ∀ (t : Ty) (x : t.den), (t.cells x).all AV.one = true
  | .int _, _ => rfl
  | .bool, _ => rfl
  | .str, _ => rfl
  | .tree k, x => by rw [Ty.cells_tree]; cases k <;> rfl
  | .list _, _ => rfl
  | .prod a b, x => by simp only [Ty.cells, List.all_append, Zda a, Zda b]; rfl
  | .st t, x => Zda t x
  | .ptr _, _ => rfl
  | .optr _, x => by cases x <;> rfl
  | .opq _, x => nomatch x
theorem ZoO {a b : List AV} (h : NRs a b) (ho : a.all AV.one = true) : b.all AV.one = true := by
  induction h with
  | nil => rfl
  | cons h _ ih =>
    simp only [List.all_cons, Bool.and_eq_true] at ho ⊢;exact ⟨Zws h ho.1, ih ho.2⟩

def DR (t : Ty) (x : t.den) (v : AV) : Prop := match t.agg with
  | true => ∃ cs, v = .agg cs ∧ NRs (t.cells x) cs
  | false => NRs (t.cells x) [v]
theorem DR.st {t : Ty} {x : t.den} {v : AV} : DR (.st t) x v ↔ ∃ cs, v = .agg cs ∧ NRs (t.cells x) cs := Iff.rfl
theorem DR.sc {t : Ty} {x : t.den} {v : AV} (h : t.agg = false) : DR t x v ↔ NRs (t.cells x) [v] := by unfold DR; rw [h]
theorem DR.int {k : IntKind} {n : Int} {v : AV} (h : DR (.int k) n v) : v = .int k n := by
  rcases NRs.one h with h | ⟨h, _⟩
  · exact h
  · cases h
theorem DR.bool {n : Bool} {v : AV} (h : DR .bool n v) : v = .bool n := by
  rcases NRs.one h with h | ⟨h, _⟩
  · exact h
  · cases h
theorem DR.str {n : ByteArray} {v : AV} (h : DR .str n v) : v = .str n := by
  rcases NRs.one h with h | ⟨h, _⟩
  · exact h
  · cases h
theorem DR.ptr {t : Ty} {x : t.den} {v : AV} (h : DR (.ptr t) x v) : v = .fp (t.cells x) := by
  rcases NRs.one h with h | ⟨h, _⟩
  · exact h
  · cases h
theorem DR.optr {t : Ty} {x : Option t.den} {v : AV} (h : DR (.optr t) x v) : (x = none ∧ v = .nilp) ∨ ∃ y, x = some y ∧ v = .fp (t.cells y) := by
  cases x with
  | none =>
    rcases NRs.one (show NRs [.nilp] [v] from h) with h | ⟨h, _⟩
    · exact .inl ⟨rfl, h⟩
    · cases h
  | some y =>
    rcases NRs.one (show NRs [.fp (t.cells y)] [v] from h) with h | ⟨h, _⟩
    · exact .inr ⟨y, rfl, h⟩
    · cases h
theorem DR.list {t : Ty} {l : List t.den} {v : AV} (h : DR (.list t) l v) : v = .fs (l.flatMap t.cells) l.length ∨ (l = [] ∧ v = .nils) := by
  rcases NRs.one h with h | ⟨h, h'⟩
  · exact .inl h
  · injection h with h1 h2;exact .inr ⟨List.length_eq_zero_iff.1 h2, h'⟩
theorem DR.enc (t : Ty) (x : t.den) (h : t.agg = true ∨ t.size = 1) : DR t x (t.enc x) := by
  unfold DR;cases ha : t.agg with
  | true => exact ⟨_, by unfold Ty.enc; rw [ha], .refl _⟩
  | false =>
    have hs : t.size = 1 := by rcases h with h | h; · rw [ha] at h; cases h
                               · exact h
    rw [Ty.enc_cells t x ha hs]; exact .refl _
theorem DR.mkint (k : IntKind) (n : Int) : DR (.int k) n (.int k n) := .cons (.refl _) .nil
theorem DR.mkbool (n : Bool) : DR .bool n (.bool n) := .cons (.refl _) .nil
theorem DR.mkstr (n : ByteArray) : DR .str n (.str n) := .cons (.refl _) .nil
theorem DR.mklist (t : Ty) (l : List t.den) : DR (.list t) l (.fs (l.flatMap t.cells) l.length) := .cons (.refl _) .nil

theorem ZgB {v : AV} (h : v.one = true) : v.cells = [v] := by cases v <;> first | rfl | cases h
mutual
inductive VR2 (m : Nat) (a : Nat → AV) : V2 → AV → Prop
  | dat {t : Ty} {x : t.den} {v : AV} : DR t x v → VR2 m a (.dat t x) v
  | fpe {t : Ty} {x : t.den} {r : List AV} : VR2 m a (.fpe t x) (.fp (t.cells x ++ r))
  | nils : VR2 m a .nils .nils
  | nilp : VR2 m a .nilp .nilp
  | nilm : VR2 m a .nilm .nilm
  | nilf : VR2 m a .nilf .nilf
  | pin {u : AV} : u.one = true → VR2 m a .pin u
  | sl {c : Nat} : c < m → (a c).one = true → VR2 m a (.sl c) (a c)
  | bx {c off n : Nat} : c < m → a c = .mp n 0 → VR2 m a (.bx c off) (.mp n off)
  | el {c : Nat} {i : Int} {off q o len z z' : Nat} {cap : Option Nat} : c < m → a c = .ms q o len cap z' → VR2 m a (.el c i z off) (.mp q (o + i.toNat * z + off))
  | elf {c : Nat} {i : Int} {off z len : Nat} {cs : List AV} : c < m → a c = .fs cs len → VR2 m a (.el c i z off) (.fp (cs.drop (i.toNat * z + off)))
  | mp {c : Nat} : c < m → (a c).one = true → VR2 m a (.mp c) (a c)
  | agg {l : List V2} {l' : List AV} : Zbl m a l l' → VR2 m a (.agg l) (.agg l')
  | tup {l : List V2} {l' : List AV} : Zbl m a l l' → VR2 m a (.tup l) (.tup l')
  | fpl {t : Ty} {l : List t.den} : VR2 m a (.fpl t l) (.fp (flatMap t.cells l))
  | ar {c q n z : Nat} : c < m → a c = .pa q n z → VR2 m a (.ar c) (.pa q n z)
  | ea {c q n z : Nat} {i : Int} : c < m → a c = .pa q n z → VR2 m a (.ea c i) (.mp q (i.toNat * z))
  | nsl {z : Bool} {t : Ty} {x : List t.den} {v : AV} : (z = true → x = [] ∧ v = .nils) → (z = false → x ≠ [] ∧ v = .fs (flatMap t.cells x) x.length) → VR2 m a (.nsl z t x) v
  | fn {g : FuncId} {x y : List V2} {x' y' : List AV} : Zbl m a x x' → Zbl m a y y' → VR2 m a (.fn g x y) (.func g x' y')
inductive Zbl (m : Nat) (a : Nat → AV) : List V2 → List AV → Prop
  | nil : Zbl m a [] []
  | cons {v : V2} {u : AV} {vs : List V2} {us : List AV} : VR2 m a v u → Zbl m a vs us → Zbl m a (v :: vs) (u :: us)
end
theorem VR2.nsl_inv {m : Nat} {a : Nat → AV} {z : Bool} {t : Ty} {x : List t.den} {u : AV} (h : VR2 m a (.nsl z t x) u) : (z = true → x = [] ∧ u = .nils) ∧ (z = false → x ≠ [] ∧ u = .fs (flatMap t.cells x) x.length) := by
  cases h with
  | nsl h i => exact ⟨h, i⟩
theorem VR2.nsl_dr {m : Nat} {a : Nat → AV} {z : Bool} {t : Ty} {x : List t.den} {u : AV} (h : VR2 m a (.nsl z t x) u) : DR (.list t) x u := by
  obtain ⟨h1, h2⟩ := h.nsl_inv;cases z
  · rw [(h2 rfl).2]; exact DR.mklist _ _
  · obtain ⟨e1, e2⟩ := h1 rfl;subst e1; subst e2;exact (show NRs _ _ from .cons (.inr ⟨rfl, rfl⟩) .nil)
mutual
theorem VR2.mono {m m' : Nat} {a a' : Nat → AV} (hm : m ≤ m') (ha : ∀ c, c < m → a' c = a c) : ∀ {v : V2} {u : AV}, VR2 m a v u → VR2 m' a' v u
  | _, _, .dat h => .dat h
  | _, _, .fpe => .fpe
  | _, _, .nils => .nils
  | _, _, .nilp => .nilp
  | _, _, .nilm => .nilm
  | _, _, .nilf => .nilf
  | _, _, .pin h => .pin h
  | _, _, .sl h e => by rw [← ha _ h] at e ⊢; exact .sl (lt_of_lt_of_le h hm) e
  | _, _, .bx h e => .bx (lt_of_lt_of_le h hm) (by rw [ha _ h]; exact e)
  | _, _, .el h e => .el (lt_of_lt_of_le h hm) (by rw [ha _ h]; exact e)
  | _, _, .elf h e => .elf (lt_of_lt_of_le h hm) (by rw [ha _ h]; exact e)
  | _, _, .mp h e => by rw [← ha _ h] at e ⊢; exact .mp (lt_of_lt_of_le h hm) e
  | _, _, .agg h => .agg (Zbl.mono hm ha h)
  | _, _, .tup h => .tup (Zbl.mono hm ha h)
  | _, _, .fpl => .fpl
  | _, _, .nsl h i => .nsl h i
  | _, _, .ar h e => .ar (lt_of_lt_of_le h hm) (by rw [ha _ h]; exact e)
  | _, _, .ea h e => .ea (lt_of_lt_of_le h hm) (by rw [ha _ h]; exact e)
  | _, _, .fn h i => .fn (Zbl.mono hm ha h) (Zbl.mono hm ha i)
theorem Zbl.mono {m m' : Nat} {a a' : Nat → AV} (hm : m ≤ m') (ha : ∀ c, c < m → a' c = a c) : ∀ {v : List V2} {u : List AV}, Zbl m a v u → Zbl m' a' v u
  | _, _, .nil => .nil
  | _, _, .cons h i => .cons (VR2.mono hm ha h) (Zbl.mono hm ha i)
end
section
variable {m : Nat} {a : Nat → AV}
theorem Zbl.length {l : List V2} {u : List AV} (h : Zbl m a l u) : u.length = l.length := by
  induction l generalizing u with
  | nil => cases h; rfl
  | cons v l ih => cases h with | cons h i => simp [ih i]
theorem Zbl.append {l : List V2} {u : List AV} {l' : List V2} {u' : List AV} (h : Zbl m a l u) (i : Zbl m a l' u') : Zbl m a (l ++ l') (u ++ u') := by
  induction l generalizing u with
  | nil => cases h; exact i
  | cons v l ih => cases h with | cons h j => exact .cons h (ih j)
theorem Zbl.take {l : List V2} {u : List AV} (h : Zbl m a l u) (n : Nat) : Zbl m a (l.take n) (u.take n) := by
  induction l generalizing u n with
  | nil => cases h; simp; exact .nil
  | cons v l ih => cases h with | cons h j => cases n with
    | zero => exact .nil
    | succ n => exact .cons h (ih j n)
theorem Zbl.drop {l : List V2} {u : List AV} (h : Zbl m a l u) (n : Nat) : Zbl m a (l.drop n) (u.drop n) := by
  induction l generalizing u n with
  | nil => cases h; simp; exact .nil
  | cons v l ih => cases h with | cons h j => cases n with
    | zero => exact .cons h j
    | succ n => exact ih j n
theorem Zbl.get {l : List V2} {u : List AV} (h : Zbl m a l u) {n : Nat} {v : V2} (hv : l[n]? = some v) : ∃ w, u[n]? = some w ∧ VR2 m a v w := by
  induction l generalizing u n with
  | nil => simp at hv
  | cons x l ih => cases h with | cons h j => cases n with
    | zero => simp at hv; subst hv; exact ⟨_, rfl, h⟩
    | succ n => exact ih j (by simpa using hv)
theorem Zbl.cells2 : ∀ (t : Ty) (x : t.den) (cs : List AV), NRs (t.cells x) cs → Zbl m a (t.cells2 x) cs
  | .prod p q, x, cs, h => by
    obtain ⟨b, d, rfl, h1, h2⟩ := NRs.split h;exact Zbl.append (Zbl.cells2 p x.1 b h1) (Zbl.cells2 q x.2 d h2)
  | .st t, x, cs, h => Zbl.cells2 t x cs h
  | .int _, x, cs, h => by cases h with | cons h i => cases i; exact .cons (.dat (.cons h .nil)) .nil
  | .bool, x, cs, h => by cases h with | cons h i => cases i; exact .cons (.dat (.cons h .nil)) .nil
  | .str, x, cs, h => by cases h with | cons h i => cases i; exact .cons (.dat (.cons h .nil)) .nil
  | .tree k, x, cs, h => by
    rw [Ty.cells_tree] at h;rw [Ty.cells2_tree];exact Zbl.cells2 k.W (k.unf x) cs h
  | .list _, x, cs, h => by cases h with | cons h i => cases i; exact .cons (.dat (.cons h .nil)) .nil
  | .ptr _, x, cs, h => by cases h with | cons h i => cases i; exact .cons (.dat (.cons h .nil)) .nil
  | .optr t, x, cs, h => by
    have hl := NRs.length h;rw [Ty.cells_len] at hl
    match cs, hl, h with
    | [c], _, h => exact .cons (.dat h) .nil
  | .opq _, x, _, _ => nomatch x
termination_by t => t.rk
decreasing_by all_goals first | exact TK.rk _ | (simp only [Ty.rk]; omega)
theorem ZkX {p q : Ty} {x : (Ty.prod p q).den} {u : AV} (h : DR (.prod p q) x u) : False := by
  have := NRs.length (show NRs ((Ty.prod p q).cells x) [u] from h);rw [Ty.cells_len] at this;have h1 := Ty.size_pos p;have h2 := Ty.size_pos q;simp [Ty.size] at this;omega
theorem VR2.fl {v : V2} {u : AV} (h : VR2 m a v u) : Zbl m a v.fl u.cells := by
  cases h with
  | dat h =>
    rename_i t x;cases t
    case st t => obtain ⟨cs, rfl, h'⟩ := DR.st.1 h; exact Zbl.cells2 t x cs h'
    case tree k => obtain ⟨cs, rfl, h'⟩ := (show ∃ cs, u = .agg cs ∧ NRs (Ty.cells (.tree k) x) cs from h); exact Zbl.cells2 (.tree k) x cs h'
    case prod => exact (ZkX h).elim
    case int => have := DR.int h; subst this; exact .cons (.dat h) .nil
    case bool => have := DR.bool h; subst this; exact .cons (.dat h) .nil
    case str => have := DR.str h; subst this; exact .cons (.dat h) .nil
    case ptr => have := DR.ptr h; subst this; exact .cons (.dat h) .nil
    case optr => rcases DR.optr h with ⟨_, e⟩ | ⟨_, _, e⟩ <;> subst e <;> exact .cons (.dat h) .nil
    case list => rcases DR.list h with e | ⟨_, e⟩ <;> subst e <;> exact .cons (.dat h) .nil
    case opq => exact nomatch x
  | agg h => exact h
  | sl h e => rw [ZgB e]; exact .cons (.sl h e) .nil
  | mp h e => rw [ZgB e]; exact .cons (.mp h e) .nil
  | fpe => exact .cons .fpe .nil
  | nils => exact .cons .nils .nil
  | nilp => exact .cons .nilp .nil
  | nilm => exact .cons .nilm .nil
  | nilf => exact .cons .nilf .nil
  | pin h => rw [ZgB h]; exact .cons (.pin h) .nil
  | bx h e => exact .cons (.bx h e) .nil
  | el h e => exact .cons (.el h e) .nil
  | elf h e => exact .cons (.elf h e) .nil
  | tup h => exact .cons (.tup h) .nil
  | fn h i => exact .cons (.fn h i) .nil
  | fpl => exact .cons .fpl .nil
  | nsl h i =>
    rename_i z _ _;cases z
    · obtain ⟨_, this⟩ := i rfl; subst this; exact .cons (.nsl h i) .nil
    · obtain ⟨_, this⟩ := h rfl; subst this; exact .cons (.nsl h i) .nil
  | ar h e => exact .cons (.ar h e) .nil
  | ea h e => exact .cons (.ea h e) .nil
theorem VR2.one {v : V2} {u : AV} (h : VR2 m a v u) (hv : v.one = true) : u.one = true := by
  cases h with
  | dat h =>
    rename_i t x;cases t
    case st t => cases hv
    case tree => cases hv
    case prod => exact (ZkX h).elim
    case int => have := DR.int h; subst this; rfl
    case bool => have := DR.bool h; subst this; rfl
    case str => have := DR.str h; subst this; rfl
    case ptr => have := DR.ptr h; subst this; rfl
    case optr => rcases DR.optr h with ⟨_, e⟩ | ⟨_, _, e⟩ <;> subst e <;> rfl
    case list => rcases DR.list h with e | ⟨_, e⟩ <;> subst e <;> rfl
    case opq => exact nomatch x
  | agg h => cases hv
  | tup h => cases hv
  | pin h => exact h
  | sl h e => exact e
  | mp h e => exact e
  | nsl h i =>
    rename_i z _ _;cases z
    · rw [(i rfl).2]; rfl
    · rw [(h rfl).2]; rfl
  | _ => rfl
theorem Zbl.all_one {l : List V2} {u : List AV} (h : Zbl m a l u) (hv : l.all V2.one = true) : u.all AV.one = true := by
  induction l generalizing u with
  | nil => cases h; rfl
  | cons v l ih => cases h with
    | cons h j =>
      simp only [List.all_cons, Bool.and_eq_true] at hv ⊢;exact ⟨h.one hv.1, ih j hv.2⟩
end

def rdB : Option AB → Option (List AV)
  | some (.cells c) => some c
  | some (.ice c) => some c
  | _ => none
theorem ZbR (S : St) (n : Nat) : ZcK S n = rdB (S.heap.get n) := by
  unfold ZcK rdB;cases S.heap.get n with
  | none => rfl
  | some b => cases b <;> rfl
def Blk (w : Bool) (b : Option AB) (cs : List AV) : Prop := match w with
  | true => b = some (.cells cs)
  | false => rdB b = some cs
theorem Blk.rd {w : Bool} {b : Option AB} {cs : List AV} (h : Blk w b cs) : rdB b = some cs := by
  cases w
  · exact h
  · rw [show b = some (.cells cs) from h]; rfl
structure SlR (h : Tr AB) (fp : Nat → Prop) (w : Bool) (q o : Nat) (cap : Option Nat) (len z : Nat) (cells cs pre post : List AV) : Prop where
  fp : fp q
  blk : Blk w (h.get q) (pre ++ (cs ++ post))
  off : pre.length = o
  nr : NRs cells cs
  cap : ∀ k, cap = some k → len ≤ k ∧ (w = true → o + k * z ≤ (pre ++ (cs ++ post)).length)
def Znx (h : Tr AB) (fp : Nat → Prop) (v : AV) (t : Ty) (l : List t.den) (w : Bool) : Prop := v.one = true ∧ ((l = [] ∧ v = .nils) ∨ (w = false ∧ v = .fs (l.flatMap t.cells) l.length) ∨
      ∃ q o cap cs pre post, v = .ms q o l.length cap t.size ∧ SlR h fp w q o cap l.length t.size (l.flatMap t.cells) cs pre post)
theorem Znx.mono {h h' : Tr AB} {fp fp' : Nat → Prop} {v : AV} {t : Ty} {l : List t.den} {w : Bool} (hf : ∀ n, fp n → fp' n) (hh : ∀ n, fp n → h'.get n = h.get n) (r : Znx h fp v t l w) : Znx h' fp' v t l w := by
  refine ⟨r.1, ?_⟩;rcases r.2 with h | h | ⟨q, o, cap, cs, pre, post, h1, h2⟩
  · exact .inl h
  · exact .inr (.inl h)
  · exact .inr (.inr ⟨q, o, cap, cs, pre, post, h1, hf q h2.fp, by rw [hh q h2.fp]; exact h2.blk, h2.off, h2.nr, h2.cap⟩)
def ZgC (mm : Nat) (a : Nat → AV) (h : Tr AB) (fp : Nat → Prop) (v : AV) (t : Ty) (l : List (List t.den)) (e : Option (Int × Nat)) : Prop := v.one = true ∧ ((l = [] ∧ v = .nils) ∨ ∃ q o cap cs pre post, v = .ms q o l.length cap 1 ∧ fp q ∧ h.get q = some (.cells (pre ++ (cs ++ post))) ∧ pre.length = o ∧ cs.length = l.length ∧
    (∀ i d, e = some (i, d) → d < mm ∧ cs[i.toNat]? = some (a d)) ∧
    ∃ fps : Nat → Nat → Prop, (∀ i n, fps i n → fp n ∧ n ≠ q) ∧ (∀ i j n, i ≠ j → fps i n → ¬ fps j n) ∧ ∀ (i : Nat) (x : List t.den), l[i]? = some x → e.map (·.1) ≠ some (i : Int) → ∃ c : AV, cs[i]? = some c ∧ Znx h (fps i) c t x true)
theorem ZgC.mono {mm mm' : Nat} {a a' : Nat → AV} (hm : mm ≤ mm') (ha : ∀ c, c < mm → a' c = a c) {h h' : Tr AB} {fp : Nat → Prop} {v : AV} {t : Ty} {l : List (List t.den)} {e : Option (Int × Nat)} (hh : ∀ n, fp n → h'.get n = h.get n) (r : ZgC mm a h fp v t l e) : ZgC mm' a' h' fp v t l e := by
  refine ⟨r.1, ?_⟩;rcases r.2 with h | ⟨q, o, cap, cs, pre, post, h1, h2, h3, h4, h5, h9, fps, h6, h7, h8⟩
  · exact .inl h
  · refine .inr ⟨q, o, cap, cs, pre, post, h1, h2, by rw [hh q h2]; exact h3, h4, h5, fun i d he => ?_, fps, h6, h7, fun i x hx he => ?_⟩
    · obtain ⟨g1, g2⟩ := h9 i d he;exact ⟨lt_of_lt_of_le g1 hm, by rw [ha d g1]; exact g2⟩
    · obtain ⟨c, g1, g2⟩ := h8 i x hx he;exact ⟨c, g1, g2.mono (fun _ h => h) (fun n hn => hh n (h6 i n hn).1)⟩
theorem ZgC.free {mm mm' : Nat} {a a' : Nat → AV} {h : Tr AB} {fp : Nat → Prop} {v : AV} {t : Ty} {l : List (List t.den)} (r : ZgC mm a h fp v t l none) : ZgC mm' a' h fp v t l none := by
  refine ⟨r.1, ?_⟩;rcases r.2 with h | ⟨q, o, cap, cs, pre, post, h1, h2, h3, h4, h5, h9, h6⟩
  · exact .inl h
  · exact .inr ⟨q, o, cap, cs, pre, post, h1, h2, h3, h4, h5, (fun i d he => by cases he), h6⟩
inductive ZsG (k v : Ty) : List (k.den × v.den) → List ME → Prop
  | nil : ZsG k v [] []
  | cons {x : k.den} {y : v.den} {b : Nat} {es : List (k.den × v.den)} {cs : List ME} : ZsG k v es cs → ZsG k v ((x, y) :: es) (⟨k.enc x, v.enc y, b⟩ :: cs)
def ZGF (ρ : Nat → Nat → AV) (n : Nat) (l : List V2) (cs : List AV) : Prop := ∀ o, l[o]? = some .pin → cs[o]? = some (ρ n o)
theorem ZHZ {v : V2} (h : v.one = true) : isPin v = false := by cases v <;> first | rfl | cases h
theorem ZHI : ∀ (t : Ty), ∀ v ∈ t.zc, isPin v = false
  | .prod a b, v, h => by
    rcases List.mem_append.1 h with h | h
    · exact ZHI a v h
    · exact ZHI b v h
  | .st t, v, h => ZHI t v h
  | .int _, v, h => by rw [mem_singleton.1 h]; rfl
  | .bool, v, h => by rw [mem_singleton.1 h]; rfl
  | .str, v, h => by rw [mem_singleton.1 h]; rfl
  | .tree k, v, h => by cases k <;> (simp [Ty.zc, TK.zc, zI, zS] at h; rcases h with rfl | h <;> first | rfl | skip) <;> (repeat' (rcases h with rfl | h)) <;> first | rfl | (subst h; rfl)
  | .list _, v, h => by rw [mem_singleton.1 h]; rfl
  | .ptr _, v, h => by rw [mem_singleton.1 h]; rfl
  | .optr _, v, h => by rw [mem_singleton.1 h]; rfl
  | .opq 0, v, h => by rw [mem_singleton.1 h]; rfl
  | .opq 1, v, h => by rw [mem_singleton.1 h]; rfl
  | .opq (_ + 2), v, h => by rw [mem_singleton.1 h]; rfl
theorem ZGF.none {ρ : Nat → Nat → AV} {n : Nat} {l : List V2} {cs : List AV} (h : ∀ v ∈ l, isPin v = false) : ZGF ρ n l cs := fun o ho => by
  have := h _ (List.mem_of_getElem? ho); cases this
theorem ZGF.over {ρ : Nat → Nat → AV} {n off : Nat} {l xs : List V2} {cs ys : List AV} (h : ZGF ρ n l cs) (hl : cs.length = l.length) (hxy : ys.length = xs.length) (hx : ∀ v ∈ xs, isPin v = false) (ho : off ≤ l.length) : ZGF ρ n (l.take off ++ (xs ++ l.drop (off + xs.length))) (cs.take off ++ (ys ++ cs.drop (off + xs.length))) := by
  intro o hp;have e1 : (l.take off).length = off := by rw [List.length_take]; omega
  have e2 : (cs.take off).length = off := by rw [List.length_take]; omega
  by_cases h1 : o < off
  · rw [List.getElem?_append_left (by omega), List.getElem?_take, if_pos h1] at hp ⊢;exact h o hp
  · rw [List.getElem?_append_right (by omega)] at hp ⊢;rw [e1] at hp;rw [e2];by_cases h2 : o - off < xs.length
    · rw [List.getElem?_append_left h2] at hp;have := hx _ (List.mem_of_getElem? hp);cases this
    · rw [List.getElem?_append_right (by omega), List.getElem?_drop] at hp ⊢;have := h _ hp;rw [show off + xs.length + (o - off - xs.length) = o by omega] at this;rw [hxy, show off + xs.length + (o - off - xs.length) = o by omega]; exact this
theorem ZHJ {b : Nat → Nat} {sv : SV} {ds : List D} (h : (Zh0 b sv ds).1 = .pin) : sv = .pin := by
  cases sv <;> simp only [Zh0] at h <;> first | rfl | (exfalso; revert h; split <;> (intro h; cases h)) | cases h
theorem ZGT {b : Nat → Nat} : ∀ (l : List SV) (ds : List D) (o : Nat), (ZbE b l ds).1[o]? = some .pin → l[o]? = some .pin
  | [], ds, o, h => by simp [ZbE] at h
  | x :: xs, ds, 0, h => by
    simp only [ZbE, List.getElem?_cons_zero, injEq] at h ⊢;exact ZHJ h
  | x :: xs, ds, o + 1, h => by
    simp only [ZbE, List.getElem?_cons_succ] at h ⊢;exact ZGT xs _ o h
theorem ZHb {b : Nat → Nat} : ∀ (l : List SV) (ds : List D) (o : Nat), l[o]? = some .pin → (ZbE b l ds).1[o]? = some .pin
  | [], ds, o, h => by simp at h
  | x :: xs, ds, 0, h => by
    simp only [List.getElem?_cons_zero, injEq] at h;subst h; rfl
  | x :: xs, ds, o + 1, h => by
    simp only [ZbE, List.getElem?_cons_succ] at h ⊢;exact ZHb xs _ o h
theorem ZHj : ∀ (l : List SV) {l' : List V2} {r : Rn} {p : List D × Rn}, Zq7 l l' r = some p → ∀ o : Nat, l[o]? = some SV.pin → l'[o]? = some V2.pin
  | [], l', r, p, h, o, ho => by simp at ho
  | x :: xs, l', r, p, h, o, ho => by
    cases l' with
    | nil => simp [Zq7] at h
    | cons v vs =>
      simp only [Zq7, Zaa] at h;obtain ⟨q, h1, q2, h2, _⟩ := h;cases o with
      | zero =>
        simp only [List.getElem?_cons_zero, injEq] at ho ⊢;subst ho;cases v <;> simp [ZjQ] at h1; rfl
      | succ o =>
        simp only [List.getElem?_cons_succ] at ho ⊢;exact ZHj xs h2 o ho
def Zcr (ρ : Nat → Nat → AV) (m : Nat) (a : Nat → AV) (h : Tr AB) (fp : Nat → Prop) (v : AV) : C2 → Prop
  | .box l w => ∃ n cs, v = .mp n 0 ∧ fp n ∧ Blk w (h.get n) cs ∧ Zbl m a l cs ∧ ZGF ρ n l cs
  | .own t l w => v.one = true ∧ ((l = [] ∧ v = .nils) ∨ (w = false ∧ v = .fs (l.flatMap t.cells) l.length) ∨
      ∃ q o cap cs pre post, v = .ms q o l.length cap t.size ∧ SlR h fp w q o cap l.length t.size (l.flatMap t.cells) cs pre post)
  | .lit t n l w => ∃ q cs, v = .ms q 0 n (some n) t.size ∧ fp q ∧ Blk w (h.get q) cs ∧ Zbl m a l cs ∧ l.length = n * t.size
  | .map k v' es => ∃ n cs clk, v = .map n ∧ fp n ∧ h.get n = some (.map cs clk) ∧ ZsG k v' es cs
  | .own2 t l e => ZgC m a h fp v t l e
  | .mix t l e => (0 ≤ e.1 ∧ e.1.toNat < l.length) ∧ ∃ q o cap cs pre post, v = .ms q o l.length cap 1 ∧ fp q ∧ h.get q = some (.cells (pre ++ (cs ++ post))) ∧ pre.length = o ∧ cs.length = l.length ∧ e.2 < m ∧ (a e.2).one = true ∧ cs[e.1.toNat]? = some (a e.2) ∧ ∀ (i : Nat) (x : List t.den), l[i]? = some x → (i : Int) ≠ e.1 → ∃ c : AV, cs[i]? = some c ∧ NR (.fs (x.flatMap t.cells) x.length) c
  | .arr t l => ∃ q cs, v = .pa q l.length t.size ∧ fp q ∧ h.get q = some (.cells cs) ∧ NRs (flatMap t.cells l) cs
  | .lnk d hh n z => ∃ q, v = .pa q n z ∧ d < m ∧ a d = .ms q 0 hh.toNat (some n) z ∧ 0 ≤ hh ∧ hh.toNat ≤ n
theorem Zcr.mono {ρ : Nat → Nat → AV} {m m' : Nat} {a a' : Nat → AV} (hm : m ≤ m') (ha : ∀ c, c < m → a' c = a c) {h h' : Tr AB} {fp : Nat → Prop} {v : AV} (hh : ∀ n, fp n → h'.get n = h.get n) : ∀ {ck : C2}, Zcr ρ m a h fp v ck → Zcr ρ m' a' h' fp v ck
  | .box l w, ⟨n, cs, h1, h2, h3, h4, h5⟩ => ⟨n, cs, h1, h2, by rw [hh n h2]; exact h3, h4.mono hm ha, h5⟩
  | .own t l w, h => by
    refine ⟨h.1, ?_⟩;rcases h.2 with h | h | ⟨q, o, cap, cs, pre, post, h1, h2⟩
    · exact .inl h
    · exact .inr (.inl h)
    · exact .inr (.inr ⟨q, o, cap, cs, pre, post, h1, h2.fp, by rw [hh q h2.fp]; exact h2.blk, h2.off, h2.nr, h2.cap⟩)
  | .lit t n l w, ⟨q, cs, h1, h2, h3, h4, h5⟩ => ⟨q, cs, h1, h2, by rw [hh q h2]; exact h3, h4.mono hm ha, h5⟩
  | .map k v' es, ⟨n, cs, clk, h1, h2, h3, h4⟩ => ⟨n, cs, clk, h1, h2, by rw [hh n h2]; exact h3, h4⟩
  | .own2 t l e, r => ZgC.mono hm ha hh r
  | .mix t l e, ⟨h0, q, o, cap, cs, pre, post, h1, h2, h3, h4, h5, h6, h9, h7, h8⟩ => ⟨h0, q, o, cap, cs, pre, post, h1, h2, by rw [hh q h2]; exact h3, h4, h5, lt_of_lt_of_le h6 hm, by rw [ha _ h6]; exact h9, by rw [ha _ h6]; exact h7, h8⟩
  | .arr t l, ⟨q, cs, h1, h2, h3, h4⟩ => ⟨q, cs, h1, h2, by rw [hh q h2]; exact h3, h4⟩
  | .lnk d _ n z, ⟨q, h1, h2, h3, h4⟩ => ⟨q, h1, lt_of_lt_of_le h2 hm, by rw [ha d h2]; exact h3, h4⟩
theorem Zcr.monoR {ρ : Nat → Nat → AV} {m m' : Nat} {a a' : Nat → AV} (hm : m ≤ m') (ha : ∀ c, c < m → a' c = a c) {h h' : Tr AB} {fp : Nat → Prop} {v : AV} (hh : ∀ n, fp n → rdB (h'.get n) = rdB (h.get n)) : ∀ {ck : C2}, ck.w = false → Zcr ρ m a h fp v ck → Zcr ρ m' a' h' fp v ck
  | .box l w, e, ⟨n, cs, h1, h2, h3, h4, h5⟩ => by
    have e : w = false := e;subst e;exact ⟨n, cs, h1, h2, by show rdB _ = _; rw [hh n h2]; exact h3, h4.mono hm ha, h5⟩
  | .own t l w, e, h => by
    have e : w = false := e;subst e;refine ⟨h.1, ?_⟩;rcases h.2 with h | h | ⟨q, o, cap, cs, pre, post, h1, h2⟩
    · exact .inl h
    · exact .inr (.inl h)
    · exact .inr (.inr ⟨q, o, cap, cs, pre, post, h1, h2.fp, by show rdB _ = _; rw [hh q h2.fp]; exact h2.blk, h2.off, h2.nr, h2.cap⟩)
  | .lit t n l w, e, ⟨q, cs, h1, h2, h3, h4, h5⟩ => by
    have e : w = false := e;subst e;exact ⟨q, cs, h1, h2, by show rdB _ = _; rw [hh q h2]; exact h3, h4.mono hm ha, h5⟩
  | .map k v' es, e, _ => by cases e
  | .own2 t l e', e, _ => by cases e
  | .mix t l e', e, _ => by cases e
  | .arr t l, e, _ => by cases e
  | .lnk d _ n z, _, ⟨q, h1, h2, h3, h4⟩ => ⟨q, h1, lt_of_lt_of_le h2 hm, by rw [ha d h2]; exact h3, h4⟩
def C2.ro : C2 → C2
  | .box l _ => .box l false
  | .own t l _ => .own t l false
  | .lit t n l _ => .lit t n l false
  | c => c
def C2.isMap : C2 → Bool
  | .map .. => true
  | .own2 .. => true
  | .arr .. => true
  | .mix .. => true
  | _ => false
theorem Zcr.ro {ρ : Nat → Nat → AV} {m : Nat} {a : Nat → AV} {h : Tr AB} {fp : Nat → Prop} {v : AV} : ∀ {ck : C2}, Zcr ρ m a h fp v ck → Zcr ρ m a h fp v ck.ro
  | .box l w, ⟨n, cs, h1, h2, h3, h4, h5⟩ => ⟨n, cs, h1, h2, h3.rd, h4, h5⟩
  | .own t l w, h => by
    refine ⟨h.1, ?_⟩;rcases h.2 with h | h | ⟨q, o, cap, cs, pre, post, h1, h2⟩
    · exact .inl h
    · exact .inr (.inl ⟨rfl, h.2⟩)
    · exact .inr (.inr ⟨q, o, cap, cs, pre, post, h1, h2.fp, h2.blk.rd, h2.off, h2.nr, fun k hk => ⟨(h2.cap k hk).1, fun e => by cases e⟩⟩)
  | .lit t n l w, ⟨q, cs, h1, h2, h3, h4, h5⟩ => ⟨q, cs, h1, h2, h3.rd, h4, h5⟩
  | .map k v' es, h => h
  | .own2 t l e, h => h
  | .mix .., h => h
  | .arr .., h => h
  | .lnk .., h => h
theorem C2.ro_w {ck : C2} (h : ck.isMap = false) : ck.ro.w = false := by cases ck <;> first | rfl | cases h
structure Fr where
  ex : Nat → Prop
  ro : Nat → Prop
  h : Tr AB
  pn : Nat → Nat → AV
structure Rel (F : Fr) (a : Nat → AV) (fp : Nat → Nat → Prop) (s : S2) (T : Tm) (S : St) : Prop where
  slots : ∀ k v, s.T.get k = some v → ∃ u, T.get k = some u ∧ VR2 s.nx a v u
  chunks : ∀ c ck, s.H.get c = some ck → Zcr F.pn s.nx a S.heap (fp c) (a c) ck
  dis : ∀ c c' ck ck', s.H.get c = some ck → s.H.get c' = some ck' → c ≠ c' → (ck.w = true ∨ ck'.w = true) → ∀ n, fp c n → ¬ fp c' n
  lt : ∀ c ck, s.H.get c = some ck → ∀ n, fp c n → n < S.next
  nx : ∀ c ck, s.H.get c = some ck → c < s.nx
  fex : ∀ n, F.ex n → S.heap.get n = F.h.get n ∧ n < S.next
  fro : ∀ n, F.ro n → rdB (S.heap.get n) = rdB (F.h.get n) ∧ n < S.next
  dex : ∀ c ck, s.H.get c = some ck → ∀ n, fp c n → ¬ F.ex n
  dro : ∀ c ck, s.H.get c = some ck → ck.w = true → ∀ n, fp c n → ¬ F.ro n

section
variable {F : Fr} {a : Nat → AV} {fp : Nat → Nat → Prop} {s : S2} {T T' : Tm} {S S' : St}
theorem Rel.put (R : Rel F a fp s T S) {d : Nat} {v : V2} {u : AV} (h : VR2 s.nx a v u) : Rel F a fp ⟨s.T.put d v, s.H, s.nx⟩ (T.put d u) S := by
  refine { R with slots := ?_ };intro k w hk;simp only [Tr.get_put] at hk ⊢;split at hk
  · rename_i e;cases hk;rw [if_pos e];exact ⟨u, rfl, h⟩
  · rename_i e;rw [if_neg e];exact R.slots k w hk
theorem Rel.less (R : Rel F a fp s T S) {T2 : Tr V2} (h : ∀ k v, T2.get k = some v → ∃ u, T.get k = some u ∧ VR2 s.nx a v u) : Rel F a fp ⟨T2, s.H, s.nx⟩ T S :=
  { R with slots := h }
theorem Rel.del (R : Rel F a fp s T S) (c : Nat) : Rel F a fp ⟨s.T, s.H.del c, s.nx⟩ T S := by
  have g : ∀ c' ck, (s.H.del c).get c' = some ck → s.H.get c' = some ck ∧ c' ≠ c := by
    intro c' ck h;rw [Tr.get_del] at h;split at h
    · cases h
    · exact ⟨h, by assumption⟩
  exact { R with
    chunks := fun c' ck h => R.chunks c' ck (g c' ck h).1
    dis := fun c1 c2 k1 k2 h1 h2 => R.dis c1 c2 k1 k2 (g c1 k1 h1).1 (g c2 k2 h2).1
    lt := fun c' ck h => R.lt c' ck (g c' ck h).1
    nx := fun c' ck h => R.nx c' ck (g c' ck h).1
    dex := fun c' ck h => R.dex c' ck (g c' ck h).1
    dro := fun c' ck h => R.dro c' ck (g c' ck h).1 }
theorem Rel.heap (R : Rel F a fp s T S) {Dn : Nat → Prop} (h1 : ∀ n, n < S.next → ¬ Dn n → S'.heap.get n = S.heap.get n) (h2 : S.next ≤ S'.next)
    (h3 : ∀ c ck, s.H.get c = some ck → ∀ n, fp c n → ¬ Dn n) (h4 : ∀ n, Dn n → ¬ F.ex n ∧ ¬ F.ro n) : Rel F a fp s T S' :=
  { R with
    chunks := fun c ck h => (R.chunks c ck h).mono (le_refl _) (fun _ _ => rfl) (fun n hn => h1 n (R.lt c ck h n hn) (h3 c ck h n hn))
    lt := fun c ck h n hn => lt_of_lt_of_le (R.lt c ck h n hn) h2
    fex := fun n hn => by
      obtain ⟨e, l⟩ := R.fex n hn;exact ⟨by rw [h1 n l (fun d => (h4 n d).1 hn), e], by omega⟩
    fro := fun n hn => by
      obtain ⟨e, l⟩ := R.fro n hn;exact ⟨by rw [h1 n l (fun d => (h4 n d).2 hn), e], by omega⟩ }
theorem Rel.add (R : Rel F a fp s T S) {c : Nat} {ck : C2} {Pn : Nat → Prop} (hc : s.H.get c = none) (hn : c < s.nx)
    (ok : Zcr F.pn s.nx a S.heap Pn (a c) ck) (lt : ∀ n, Pn n → n < S.next)
    (dis : ∀ c' ck', s.H.get c' = some ck' → (ck.w = true ∨ ck'.w = true) → ∀ n, Pn n → ¬ fp c' n) (dex : ∀ n, Pn n → ¬ F.ex n) (dro : ck.w = true → ∀ n, Pn n → ¬ F.ro n) :
    Rel F a (fun d => if d = c then Pn else fp d) ⟨s.T, s.H.put c ck, s.nx⟩ T S := by
  have g : ∀ c' k, (s.H.put c ck).get c' = some k → (c' = c ∧ k = ck) ∨ (c' ≠ c ∧ s.H.get c' = some k) := by
    intro c' k h;rw [Tr.get_put] at h;split at h
    · cases h; exact .inl ⟨by assumption, rfl⟩
    · exact .inr ⟨by assumption, h⟩
  refine { R with chunks := ?_, dis := ?_, lt := ?_, nx := ?_, dex := ?_, dro := ?_ }
  · intro c' k h;rcases g c' k h with ⟨rfl, rfl⟩ | ⟨e, h⟩
    · simp only [if_true]; exact ok
    · simp only [if_neg e]; exact R.chunks c' k h
  · intro c1 c2 k1 k2 h1 h2 hne hw n hn;replace h1 := g c1 k1 h1;replace h2 := g c2 k2 h2;rcases h1 with ⟨rfl, rfl⟩ | ⟨e1, h1⟩ <;> rcases h2 with ⟨rfl, rfl⟩ | ⟨e2, h2⟩
    · exact absurd rfl hne
    · simp only [if_true, if_neg e2] at hn ⊢; exact dis c2 k2 h2 hw n hn
    · simp only [if_true, if_neg e1] at hn ⊢; exact fun hp => dis c1 k1 h1 (hw.symm) n hp hn
    · simp only [if_neg e1, if_neg e2] at hn ⊢; exact R.dis c1 c2 k1 k2 h1 h2 hne hw n hn
  · intro c' k h n hn;rcases g c' k h with ⟨rfl, rfl⟩ | ⟨e, h⟩
    · simp only [if_true] at hn; exact lt n hn
    · simp only [if_neg e] at hn; exact R.lt c' k h n hn
  · intro c' k h;rcases g c' k h with ⟨rfl, rfl⟩ | ⟨e, h⟩
    · exact hn
    · exact R.nx c' k h
  · intro c' k h n hn;rcases g c' k h with ⟨rfl, rfl⟩ | ⟨e, h⟩
    · simp only [if_true] at hn; exact dex n hn
    · simp only [if_neg e] at hn; exact R.dex c' k h n hn
  · intro c' k h hw n hn;rcases g c' k h with ⟨rfl, rfl⟩ | ⟨e, h⟩
    · simp only [if_true] at hn; exact dro hw n hn
    · simp only [if_neg e] at hn; exact R.dro c' k h hw n hn
theorem Rel.congr (R : Rel F a fp s T S) {H : Tr C2} (h : ∀ c, H.get c = s.H.get c) : Rel F a fp ⟨s.T, H, s.nx⟩ T S :=
  { R with
    chunks := fun c ck e => R.chunks c ck (by rw [← h]; exact e)
    dis := fun c c' ck ck' e e' => R.dis c c' ck ck' (by rw [← h]; exact e) (by rw [← h]; exact e')
    lt := fun c ck e => R.lt c ck (by rw [← h]; exact e)
    nx := fun c ck e => R.nx c ck (by rw [← h]; exact e)
    dex := fun c ck e => R.dex c ck (by rw [← h]; exact e)
    dro := fun c ck e => R.dro c ck (by rw [← h]; exact e) }
theorem Zuo (H : Tr C2) (c : Nat) (ck : C2) (d : Nat) : (H.put c ck).get d = ((H.del c).put c ck).get d := by
  rw [Tr.get_put, Tr.get_put, Tr.get_del];split <;> rfl
theorem Zup (fp : Nat → Nat → Prop) (c : Nat) : (fun d => if d = c then fp c else fp d) = fp := by
  funext d;by_cases h : d = c
  · subst h; simp
  · simp [h]
theorem Rel.set (R : Rel F a fp s T S) {c : Nat} {ck ck' : C2} (hc : s.H.get c = some ck) (hw : ck.w = true) (h1 : ∀ n, n < S.next → ¬ fp c n → S'.heap.get n = S.heap.get n) (h2 : S.next ≤ S'.next)
    (ok : Zcr F.pn s.nx a S'.heap (fp c) (a c) ck') : Rel F a fp ⟨s.T, s.H.put c ck', s.nx⟩ T S' := by
  have R1 := R.del c;have g : ∀ c' k, (s.H.del c).get c' = some k → s.H.get c' = some k ∧ c' ≠ c := by
    intro c' k h;rw [Tr.get_del] at h;split at h
    · cases h
    · exact ⟨h, by assumption⟩
  have R2 : Rel F a fp ⟨s.T, s.H.del c, s.nx⟩ T S' := R1.heap (Dn := fp c) h1 h2
    (fun c' k h n hn hd => R.dis c' c k ck (g c' k h).1 hc (g c' k h).2 (.inr hw) n hn hd)
    (fun n hd => ⟨R.dex c ck hc n hd, R.dro c ck hc hw n hd⟩)
  have R3 := R2.add (c := c) (ck := ck') (Pn := fp c) (by show (s.H.del c).get c = none; rw [Tr.get_del, if_pos rfl]) (R.nx c ck hc) ok
    (fun n hn => lt_of_lt_of_le (R.lt c ck hc n hn) h2)
    (fun c' k h _ n hn hf => R.dis c' c k ck (g c' k h).1 hc (g c' k h).2 (.inr hw) n hf hn)
    (fun n hn => R.dex c ck hc n hn) (fun _ n hn => R.dro c ck hc hw n hn)
  rw [Zup] at R3;exact R3.congr (fun d => Zuo _ _ _ _)
theorem Rel.lock (R : Rel F a fp s T S) {c : Nat} {ck : C2} (hc : s.H.get c = some ck) (hm : ck.isMap = false) {h' : Tr AB} (h1 : ∀ n, h'.get n = S.heap.get n ∨ (fp c n ∧ rdB (h'.get n) = rdB (S.heap.get n))) :
    Rel F a fp ⟨s.T, s.H.put c ck.ro, s.nx⟩ T ⟨h', S.next⟩ := by
  have g : ∀ c' k, (s.H.put c ck.ro).get c' = some k → (c' = c ∧ k = ck.ro) ∨ (c' ≠ c ∧ s.H.get c' = some k) := by
    intro c' k h;rw [Tr.get_put] at h;split at h
    · cases h; exact .inl ⟨by assumption, rfl⟩
    · exact .inr ⟨by assumption, h⟩
  have hr : ∀ n, rdB (h'.get n) = rdB (S.heap.get n) := fun n => by
    rcases h1 n with e | e
    · rw [e]
    · exact e.2
  refine { R with chunks := ?_, dis := ?_, lt := ?_, nx := ?_, dex := ?_, dro := ?_, fex := ?_, fro := ?_ }
  · intro c' k h;rcases g c' k h with ⟨rfl, rfl⟩ | ⟨e, h⟩
    · exact ((R.chunks _ _ hc).ro).monoR (le_refl _) (fun _ _ => rfl) (fun n _ => hr n) (C2.ro_w hm)
    · cases hk : k.w with
      | false => exact (R.chunks _ _ h).monoR (le_refl _) (fun _ _ => rfl) (fun n _ => hr n) hk
      | true => exact (R.chunks _ _ h).mono (le_refl _) (fun _ _ => rfl) (fun n hn => by
          rcases h1 n with e' | e'
          · exact e'
          · exact absurd e'.1 (R.dis c' c k ck h hc e (.inl hk) n hn))
  · intro c1 c2 k1 k2 i1 i2 hne hw n hn;replace i1 := g c1 k1 i1;replace i2 := g c2 k2 i2;rcases i1 with ⟨rfl, rfl⟩ | ⟨e1, i1⟩ <;> rcases i2 with ⟨rfl, rfl⟩ | ⟨e2, i2⟩
    · exact absurd rfl hne
    · rw [C2.ro_w hm] at hw;exact R.dis _ c2 ck k2 hc i2 hne (.inr (hw.resolve_left (by simp))) n hn
    · rw [C2.ro_w hm] at hw;exact R.dis c1 _ k1 ck i1 hc hne (.inl (hw.resolve_right (by simp))) n hn
    · exact R.dis c1 c2 k1 k2 i1 i2 hne hw n hn
  · intro c' k h n hn;rcases g c' k h with ⟨rfl, rfl⟩ | ⟨e, h⟩
    · exact R.lt _ _ hc n hn
    · exact R.lt _ _ h n hn
  · intro c' k h;rcases g c' k h with ⟨rfl, rfl⟩ | ⟨e, h⟩
    · exact R.nx _ _ hc
    · exact R.nx _ _ h
  · intro n hn;obtain ⟨e, l⟩ := R.fex n hn;refine ⟨?_, l⟩;rcases h1 n with e' | e'
    · rw [← e]; exact e'
    · exact absurd hn (R.dex _ _ hc n e'.1)
  · intro n hn;obtain ⟨e, l⟩ := R.fro n hn;exact ⟨by rw [← e]; exact hr n, l⟩
  · intro c' k h n hn;rcases g c' k h with ⟨rfl, rfl⟩ | ⟨e, h⟩
    · exact R.dex _ _ hc n hn
    · exact R.dex _ _ h n hn
  · intro c' k h hw n hn;rcases g c' k h with ⟨rfl, rfl⟩ | ⟨e, h⟩
    · rw [C2.ro_w hm] at hw; cases hw
    · exact R.dro _ _ h hw n hn
theorem Rel.rebox (R : Rel F a fp s T S) {c : Nat} {l l' : List V2} {w : Bool} (hc : s.H.get c = some (.box l w)) (hl : ∀ cs, Zbl s.nx a l cs → Zbl s.nx a l' cs) (hpn : ∀ o : Nat, l'[o]? = some V2.pin → l[o]? = some V2.pin) : Rel F a fp ⟨s.T, s.H.put c (.box l' w), s.nx⟩ T S := by
  have g : ∀ c' k, (s.H.put c (.box l' w)).get c' = some k → ∃ k0, s.H.get c' = some k0 ∧ k.w = k0.w ∧ (k = k0 ∨ (c' = c ∧ k = .box l' w)) := by
    intro c' k h;rw [Tr.get_put] at h;split at h
    · rename_i e;cases h; subst e; exact ⟨_, hc, rfl, .inr ⟨rfl, rfl⟩⟩
    · exact ⟨k, h, rfl, .inl rfl⟩
  refine { R with chunks := ?_, dis := ?_, lt := ?_, nx := ?_, dex := ?_, dro := ?_ }
  · intro c' k h;obtain ⟨k0, h0, _, h2⟩ := g c' k h;rcases h2 with rfl | ⟨rfl, rfl⟩
    · exact R.chunks _ _ h0
    · obtain ⟨n, cs, g1, g2, g3, g4, g5⟩ := R.chunks _ _ hc;exact ⟨n, cs, g1, g2, g3, hl cs g4, fun o ho => g5 o (hpn o ho)⟩
  · intro c1 c2 k1 k2 i1 i2 hne hw n hn;obtain ⟨j1, a1, b1, _⟩ := g c1 k1 i1;obtain ⟨j2, a2, b2, _⟩ := g c2 k2 i2;exact R.dis c1 c2 j1 j2 a1 a2 hne (by rw [← b1, ← b2]; exact hw) n hn
  · intro c' k h n hn;obtain ⟨k0, h0, _, _⟩ := g c' k h;exact R.lt _ _ h0 n hn
  · intro c' k h;obtain ⟨k0, h0, _, _⟩ := g c' k h;exact R.nx _ _ h0
  · intro c' k h n hn;obtain ⟨k0, h0, _, _⟩ := g c' k h;exact R.dex _ _ h0 n hn
  · intro c' k h hw n hn;obtain ⟨k0, h0, h1, _⟩ := g c' k h;exact R.dro _ _ h0 (by rw [← h1]; exact hw) n hn
theorem Zbl.set {m : Nat} {a : Nat → AV} : ∀ {l : List V2} {cs : List AV} {o : Nat} {v v' : V2}, l[o]? = some v → (∀ u, VR2 m a v u → VR2 m a v' u) → Zbl m a l cs → Zbl m a (l.set o v') cs
  | [], _, _, _, _, h, _, _ => by simp at h
  | x :: l, _, 0, v, v', h, hv, .cons h1 h2 => by simp at h; subst h; exact .cons (hv _ h1) h2
  | x :: l, _, o + 1, v, v', h, hv, .cons h1 h2 => .cons h1 (Zbl.set (by simpa using h) hv h2)
theorem Rel.room (R : Rel F a fp s T S) (v : AV) : Rel F (fun d => if d = s.nx then v else a d) fp ⟨s.T, s.H, s.nx + 1⟩ T S := by
  have ha : ∀ c, c < s.nx → (fun d => if d = s.nx then v else a d) c = a c := fun c hc => by simp only [if_neg (by omega : ¬ c = s.nx)]
  refine { R with slots := ?_, chunks := ?_, nx := ?_ }
  · intro k w hk;obtain ⟨u, h1, h2⟩ := R.slots k w hk;exact ⟨u, h1, h2.mono (Nat.le_succ _) ha⟩
  · intro c ck h;have := (R.chunks c ck h).mono (Nat.le_succ _) ha (fun _ _ => rfl);rw [← ha c (R.nx c ck h)] at this;exact this
  · intro c ck h; have := R.nx c ck h; show c < s.nx + 1; omega
theorem Rel.none_nx (R : Rel F a fp s T S) : s.H.get s.nx = none := by
  cases h : s.H.get s.nx with
  | none => rfl
  | some ck => have := R.nx _ _ h; omega
theorem Rel.new0 (R : Rel F a fp s T S) {ck : C2} {b : AB} {v : AV} (ok : ∀ a' : Nat → AV, (∀ c, c < s.nx → a' c = a c) → Zcr F.pn (s.nx + 1) a' (S.heap.put S.next b) (fun n => n = S.next) v ck) :
    ∃ a' fp', a' s.nx = v ∧ (∀ c, c < s.nx → a' c = a c) ∧ (∀ c, c < s.nx → fp' c = fp c) ∧ Rel F a' fp' ⟨s.T, s.H.put s.nx ck, s.nx + 1⟩ T (ZcW S b) := by
  have R1 := R.room v;have R2 : Rel F _ fp ⟨s.T, s.H, s.nx + 1⟩ T (ZcW S b) := R1.heap (S' := ZcW S b) (Dn := fun n => n = S.next) (fun n hn hd => by show (S.heap.put S.next b).get n = _; rw [Tr.get_put, if_neg hd]) (by show S.next ≤ S.next + 1; omega)
    (fun c ck h n hn hd => by have := R1.lt c ck h n hn; omega) (fun n hd => ⟨fun he => by have := (R1.fex n he).2; omega, fun he => by have := (R1.fro n he).2; omega⟩)
  have ha : ∀ c, c < s.nx → (fun d => if d = s.nx then v else a d) c = a c := fun c hc => by simp only [if_neg (by omega : ¬ c = s.nx)]
  refine ⟨_, _, by simp, ha, fun c hc => if_neg (by omega), R2.add (c := s.nx) (ck := ck) (Pn := fun n => n = S.next) R.none_nx (by show s.nx < s.nx + 1; omega) ?_ ?_ ?_ ?_ ?_⟩
  · simp only [if_true];exact ok _ ha
  · intro n hn; show n < S.next + 1; omega
  · intro c' ck' h _ n hn hf;have := R1.lt c' ck' h n hf; omega
  · intro n hn he; have := (R1.fex n he).2; omega
  · intro _ n hn he; have := (R1.fro n he).2; omega
theorem Rel.new (R : Rel F a fp s T S) {ck : C2} {b : AB} {v : AV} (hv : Za8 v = [S.next]) (ok : ∀ a' : Nat → AV, (∀ c, c < s.nx → a' c = a c) → Zcr F.pn (s.nx + 1) a' (S.heap.put S.next b) (fun n => n = S.next) v ck) :
    ∃ a' fp', a' s.nx = v ∧ (∀ c, c < s.nx → a' c = a c) ∧ (∀ c, c < s.nx → fp' c = fp c) ∧ Rel F a' fp' ⟨s.T, s.H.put s.nx ck, s.nx + 1⟩ T (ZcW S b) := R.new0 ok
end
end Go.Eng
