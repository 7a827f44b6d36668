/-
 The needed classes of the program: the queue.
-/
import Derived.Test.YthbmchbhbpnojaaDoorPl0
namespace Go.Dat
open Go.Eng
set_option linter.unusedSimpArgs false
set_option linter.unusedVariables false
set_option linter.unusedSectionVars false

theorem last_split {l : List Int} (h : 0 < l.length) : ∃ a x, l = a ++ [x] ∧ gI l ((l.length : Int) - 1) = some x ∧ slI l 0 ((l.length : Int) - 1) = a := by
 obtain ⟨a, x, rfl⟩ : ∃ a x, l = a ++ [x] := ⟨l.dropLast, l.getLast (by intro e; rw [e] at h; simp at h), (List.dropLast_concat_getLast _).symm⟩
 refine ⟨a, x, rfl, ?_, ?_⟩
 ·have : (((a ++ [x]).length : Int) - 1) = (a.length : Int) := by simp
  rw [this, gI_nat, List.getElem?_append_right (by omega)]; simp
 ·have : ((((a ++ [x]).length : Int) - 1).toNat - (0 : Int).toNat) = a.length := by simp
  unfold slI
  rw [this]; simp
section
variable {s : SatT} (X : Ctx s) {ch : List Int} (hs : SelP s ch)
include X hs
theorem WL.closed {need : List Bool} {queue : List Int} {q0 : Int} {m : Nat} (h : WL s ch need queue (fun q => q = q0) m) (hc : ∀ p, repP s p → reqP s ch q0 p → getB need p = true) : WL s ch need queue (fun _ => False) m :=
 ⟨h.len, h.sd, h.qn, fun q hq hg hnq _ p hp hr => by
  by_cases e : q = q0
  ·rw [e] at hr; exact hc p hp hr
  ·exact h.cl q hq hg hnq e p hp hr, h.sz⟩
theorem L53_1_ok {Q : (List Int × List Int × Int × Bool) → Prop} (hQ : ∀ need, NeedOk s ch need → Ret (loopL (L53_4 (some (tabM s)) ch (tabM s)) (0, 0, false, 0, false, need, [], [])) Q)
 (m : Nat) (hm : m ≤ 4000) (need : List Bool) (queue : List Int) (h : WL s ch need queue (fun _ => False) m) (r1 : getB need (atI (clsS s) s.2.2.2.1) = true) (r2 : getB need (atI (clsS s) s.2.2.2.2.1) = true) :
 Ret (loopL (L53_1 (some (tabM s)) ch) (0, false, need, queue)) Q := by
 have hn := X.n
 have v0 := (X.ci.rng X.v.va).1
 have s0 := (X.ci.rng X.v.st).1
 refine ret_loopG (fun m st => m ≤ 4000 ∧ ∃ need queue, st = (0, false, need, queue) ∧ WL s ch need queue (fun _ => False) m ∧ getB need (atI (clsS s) s.2.2.2.1) = true ∧ getB need (atI (clsS s) s.2.2.2.2.1) = true) ?_ m _ ⟨hm, need, queue, rfl, h, r1, r2⟩
 clear h r1 r2 need queue hm m
 rintro m _ ⟨hm, need, queue, rfl, h, r1, r2⟩
 have hsz := h.sz
 simp only [L53_1, wq, reduceCtorEq]
 refine ⟨fun hpos => ?_, fun hz => ?_⟩
 ·obtain ⟨qu, q0, hqe, hg, hsl⟩ := last_split (l := queue) (by omega)
  have hw : IntKind.wrap .i64 ((queue.length : Int) - 1) = (queue.length : Int) - 1 := wrap_id (by omega) (by omega)
  obtain ⟨hqr, hqg⟩ := h.qn q0 (by rw [hqe]; simp)
  have hql : queue.length = qu.length + 1 := by rw [hqe]; simp
  have hwl : WL s ch need qu (fun q => q = q0) (m - 1) := ⟨h.len, h.sd, fun q hq => h.qn q (by rw [hqe]; exact List.mem_append_left _ hq), fun q hq hgq hnq hne p hp hr => h.cl q hq hgq (by rw [hqe, List.mem_append, List.mem_singleton]; exact fun e => e.elim hnq hne) (fun f => f) p hp hr, by omega⟩
  have hreach := h.sd q0 hqr hqg
  simp only [hw, hg, hsl, wq, reduceCtorEq, F78_eq X hs.1 hqr, Option.bind_some]
  refine ⟨fun _ => ⟨fun hd => ?_, fun hd => ?_⟩, fun h => absurd h (by omega)⟩
  ·obtain ⟨hdr, _⟩ := dec_rng X hs hqr hd
   have hkl := X.kids.k _ (nodeAt_mem hdr)
   have hkr := X.kids.r _ (nodeAt_mem hdr)
   have hnd : gI (tabM s).1.1 (decC s ch q0) = some (nodeAt s.1 (decC s ch q0)) := nodeAt_get hdr
   have hreq : ∀ p, reqP s ch q0 p ↔ p ∈ kidsC s (decC s ch q0) := fun p => by unfold reqP; rw [if_pos hd]
   rw [hnd]
   simp only [wq, reduceCtorEq]
   refine ret_loop (fun st : Int × Int × Bool × List Bool × List Int => ∃ (j : Nat) (need : List Bool) (queue : List Int), st = ((j : Int), 0, false, need, queue) ∧ j ≤ (nodeAt s.1 (decC s ch q0)).2.2.length ∧ WL s ch need queue (fun q => q = q0) (m - 1) ∧ getB need (atI (clsS s) s.2.2.2.1) = true ∧ getB need (atI (clsS s) s.2.2.2.2.1) = true ∧ ∀ p ∈ kidsK s (decC s ch q0) j, getB need p = true) (fun st => (nodeAt s.1 (decC s ch q0)).2.2.length - st.1.toNat) ?_ _ ⟨0, need, qu, rfl, by omega, hwl, r1, r2, fun p hp => by simp [kidsK] at hp⟩
   rintro _ ⟨j, need', queue', rfl, hj, hwl', r1', r2', hk'⟩
   have hw2 := wrap_succ j (by omega)
   simp only [L53_2, wq, reduceCtorEq, hw2, Option.bind_some]
   refine ⟨fun hlt => ret_gI (by omega) hlt fun y hy hym => ?_, fun hge => ?_⟩
   ·have hyr := hkr y hym
    have hcy : gI (tabM s).2.1 y = some (atI (clsS s) y) := X.cget hyr
    rw [hcy]
    simp only [wq, reduceCtorEq]
    rw [gI_nat] at hy
    have hgk := kidsC_get X hy
    have hrp : Reach s ch (atI (clsS s) y) := .step hreach ((hreq _).2 (List.mem_of_getElem? hgk)) ⟨X.ci.rng hyr, X.ci.r2 y hyr⟩
    refine (F77_ok X hs hwl' (by omega) hrp).mono fun r _ ⟨w1, w2, w3⟩ => ?_
    refine ⟨⟨j + 1, r.1, r.2, rfl, by omega, w1, w3 _ v0 r1', w3 _ s0 r2', fun p hp => ?_⟩, by omega⟩
    unfold kidsK at hp
    rw [List.take_add_one, hgk] at hp
    rcases List.mem_append.1 hp with hp | hp
    ·exact w3 p (kidsC_rep X hdr (List.mem_of_mem_take hp)).1.1 (hk' p hp)
    ·rw [show p = atI (clsS s) y by simpa using hp]; exact w2
   ·rw [stepG_inl]
    refine ⟨m - 1, by omega, by omega, need', queue', rfl, hwl'.closed X hs fun p hp hr => hk' p ?_, r1', r2'⟩
    have hall : kidsK s (decC s ch q0) j = kidsC s (decC s ch q0) := by unfold kidsK; rw [List.take_of_length_le (by rw [kidsC_len X]; omega)]
    rw [hall]; exact (hreq p).1 hr
  ·have hrep := Reach.rep X hreach
   have hreq : ∀ p, reqP s ch q0 p ↔ ∀ f ∈ rowAt (candS s) q0, p ∈ kidsC s f := fun p => by unfold reqP; rw [if_neg (by omega)]
   refine (F79_ok X hrep).mono fun out _ ⟨hol, ho⟩ => ?_
   refine ret_loop (fun st : Int × Int × Bool × List Bool × List Int => ∃ (j : Nat) (need : List Bool) (queue : List Int), st = ((j : Int), 0, false, need, queue) ∧ j ≤ out.length ∧ WL s ch need queue (fun q => q = q0) (m - 1) ∧ getB need (atI (clsS s) s.2.2.2.1) = true ∧ getB need (atI (clsS s) s.2.2.2.2.1) = true ∧ ∀ p ∈ out.take j, getB need p = true) (fun st => out.length - st.1.toNat) ?_ _ ⟨0, need, qu, rfl, by omega, hwl, r1, r2, fun p hp => by simp at hp⟩
   rintro _ ⟨j, need', queue', rfl, hj, hwl', r1', r2', hk'⟩
   have hw2 := wrap_succ j (by omega)
   have hrepo : ∀ p ∈ out, repP s p := fun p hp => by
    obtain ⟨f, r, hcons⟩ := List.exists_cons_of_ne_nil (row_ne X hrep)
    exact kidsC_rep X (X.cI.mem q0 hqr f (by rw [hcons]; simp)).1 ((ho p).1 hp f (by rw [hcons]; simp))
   simp only [L53_3, wq, reduceCtorEq, hw2]
   refine ⟨fun hlt => ret_gI (by omega) hlt fun y hy hym => ?_, fun hge => ?_⟩
   ·rw [gI_nat] at hy
    have hrp : Reach s ch y := .step hreach ((hreq _).2 ((ho y).1 hym)) (hrepo y hym)
    refine (F77_ok X hs hwl' (by omega) hrp).mono fun r _ ⟨w1, w2, w3⟩ => ?_
    refine ⟨⟨j + 1, r.1, r.2, rfl, by omega, w1, w3 _ v0 r1', w3 _ s0 r2', fun p hp => ?_⟩, by omega⟩
    rw [List.take_add_one, hy] at hp
    rcases List.mem_append.1 hp with hp | hp
    ·exact w3 p (hrepo p (List.mem_of_mem_take hp)).1.1 (hk' p hp)
    ·rw [show p = y by simpa using hp]; exact w2
   ·rw [stepG_inl]
    refine ⟨m - 1, by omega, by omega, need', queue', rfl, hwl'.closed X hs fun p hp hr => hk' p ?_, r1', r2'⟩
    rw [List.take_of_length_le (by omega)]
    exact (ho p).2 ((hreq p).1 hr)
 ·have : queue = [] := List.length_eq_zero_iff.1 (by omega)
  subst this
  refine (hQ need (needOk_of X h.len h.sd r1 r2 fun q p hq hp hg hr => h.cl q hq hg (by simp) (fun f => f) p hp hr)).mono fun b _ hb => ?_
  rw [stepG_inr]; exact hb
theorem analyze_need {Q : (List Int × List Int × Int × Bool) → Prop} (hQ : ∀ need, NeedOk s ch need → Ret (loopL (L53_4 (some (tabM s)) ch (tabM s)) (0, 0, false, 0, false, need, [], [])) Q) : Ret (F53 (some (tabM s)) ch) Q := by
 have hn := X.n
 have hcl := hs.1
 have hva : gI (tabM s).2.1 (tabM s).1.2.2.2.1 = some (atI (clsS s) s.2.2.2.1) := X.cget X.v.va
 have hst : gI (tabM s).2.1 (tabM s).1.2.2.2.2.1 = some (atI (clsS s) s.2.2.2.2.1) := X.cget X.v.st
 simp only [F53, wq, reduceCtorEq, Option.bind_some, hva, hst]
 refine ⟨fun _ => ?_, fun h => absurd h (by omega)⟩
 have hcnt := cntF_le (List.replicate ch.length false)
 rw [List.length_replicate] at hcnt
 have w0 : WL s ch (List.replicate ch.length false) [] (fun _ => False) 4000 := ⟨by simp; omega, (fun q hq hg => by rw [getB_rep] at hg; cases hg), (fun q hq => by simp at hq), (fun q hq hg => by rw [getB_rep] at hg; cases hg), by simp; omega⟩
 rw [Int.toNat_natCast]
 refine (F77_ok X hs w0 (by omega) .val).mono fun r _ ⟨w1, g1, _⟩ => ?_
 refine (F77_ok X hs w1 (by omega) .st).mono fun r' _ ⟨w2, g2, mono⟩ => ?_
 exact L53_1_ok X hs hQ 4000 (by omega) _ _ w2 (mono _ (X.ci.rng X.v.va).1 g1) g2
theorem ref_need {Q : (List Int × Int × Bool) → Prop} (hQ : ∀ need, NeedOk s ch need → Ret (loopL (L55_4 (tabR s) ch) (0, 0, need, [])) Q) : Ret (F55 (tabR s) ch) Q := by
 have hn := X.n
 have hcl : (tabR s).2.1.length = s.1.length := X.clen
 have hva : gI (tabR s).2.1 (tabR s).1.2.2.2.1 = some (atI (clsS s) s.2.2.2.1) := X.cget X.v.va
 have hst : gI (tabR s).2.1 (tabR s).1.2.2.2.2.1 = some (atI (clsS s) s.2.2.2.2.1) := X.cget X.v.st
 have va := X.ci.rng X.v.va
 have st := X.ci.rng X.v.st
 have l0 : inR (List.replicate s.1.length false).length (atI (clsS s) s.2.2.2.1) := by rw [List.length_replicate]; exact va
 have l1 : inR (setI (List.replicate s.1.length false) (atI (clsS s) s.2.2.2.1) true).length (atI (clsS s) s.2.2.2.2.1) := by rw [setI_len, List.length_replicate]; exact st
 simp only [F55, wq, reduceCtorEq, hva, hst, hcl, Int.toNat_natCast, gI_getB l0, gI_getB l1]
 refine ⟨fun _ => ?_, fun h => absurd h (by omega)⟩
 refine ret_loopG (fun m (q : Bool × List Bool) => PassN s ch q.2 false q.2 (fun _ _ => False) ∧ (q.1 = false → ∀ a p, inR s.1.length a → repP s p → getB q.2 a = true → reqP s ch a p → getB q.2 p = true) ∧ m = cntF q.2 + (if q.1 = true then 1 else 0)) ?_ _ _ ⟨⟨by rw [setI_len, setI_len, List.length_replicate], fun q hq hg => ?_, ?_, ?_, Nat.le_refl _, (fun h => by cases h), fun _ => ⟨rfl, fun _ _ h => h.elim⟩⟩, (fun h => by cases h), rfl⟩
 ·rintro m ⟨more, need⟩ ⟨hp, hc, rfl⟩
  dsimp only at hp hc
  simp only [L55_1, wq, reduceCtorEq]
  refine ⟨fun ho => ?_, fun ho => ?_⟩
  ·subst ho
   refine (L55_2_ok X hs need hp).mono fun r _ ⟨more', need', er, hp'⟩ => ?_
   subst er
   rw [stepG_inl]
   refine ⟨_, ?_, ⟨hp'.len, hp'.sd, hp'.r1, hp'.r2, Nat.le_refl _, (fun h => by cases h), fun _ => ⟨rfl, fun _ _ h => h.elim⟩⟩, fun h => ?_, rfl⟩
   ·cases more' with
    | true => have := hp'.on rfl; simp; omega
    | false => rw [(hp'.off rfl).1]; simp
   ·obtain ⟨e, h2⟩ := hp'.off h
    dsimp only
    rw [e]
    exact fun a p ha hpr hg hr => h2 a p trivial ha hpr hg hr
  ·refine (hQ need (needOk_of X hp.len hp.sd hp.r1 hp.r2 (hc ho))).mono fun b _ hb => ?_
   rw [stepG_inr]; exact hb
 ·rw [getB_set l1 hq.1] at hg
  split at hg
  ·subst ‹q = _›; exact .st
  ·rw [getB_set l0 hq.1] at hg
   split at hg
   ·subst ‹q = _›; exact .val
   ·rw [getB_rep] at hg; cases hg
 ·rw [getB_set l1 va.1]
  split
  ·rfl
  ·rw [getB_set l0 va.1, if_pos rfl]
 ·rw [getB_set l1 st.1, if_pos rfl]
end
end Go.Dat
/-
 Cycles among decided classes: the program's depth first search and the reference's rounds.
-/
namespace Go.Dat
open Go.Eng
set_option linter.unusedSimpArgs false
set_option linter.unusedVariables false
set_option linter.unusedSectionVars false

structure Act (s : SatT) (ch : List Int) (need : List Bool) (q : Int) : Prop where
 r : inR s.1.length q
 n : getB need q = true
 d : 0 ≤ decC s ch q
def Ed (s : SatT) (ch : List Int) (need : List Bool) (a b : Int) : Prop := Act s ch need a ∧ b ∈ kidsC s (decC s ch a)
inductive Pth (s : SatT) (ch : List Int) (need : List Bool) : Int → Int → Prop
 | refl {a : Int} : Pth s ch need a a
 | snoc {a b c : Int} : Pth s ch need a b → Ed s ch need b c → Pth s ch need a c
inductive Dn (s : SatT) (ch : List Int) : Int → Prop
 | mk {q : Int} : (∀ p ∈ kidsC s (decC s ch q), 0 ≤ decC s ch p → Dn s ch p) → Dn s ch q
def CycP (s : SatT) (ch : List Int) (need : List Bool) : Prop := ∃ q, Act s ch need q ∧ ¬ Dn s ch q
theorem Pth.act {s : SatT} {ch : List Int} {need : List Bool} {a b : Int} (h : Pth s ch need a b) : Act s ch need b → Act s ch need a := by
 induction h with
 | refl => exact id
 | snoc _ e ih => exact fun _ => ih e.1
theorem Pth.head {s : SatT} {ch : List Int} {need : List Bool} {a b : Int} (h : Pth s ch need a b) : a = b ∨ ∃ c, Ed s ch need a c ∧ Pth s ch need c b := by
 induction h with
 | refl => exact .inl rfl
 | snoc _ e ih =>
  rcases ih with rfl | ⟨c, h1, h2⟩
  ·exact .inr ⟨_, e, .refl⟩
  ·exact .inr ⟨c, h1, h2.snoc e⟩
theorem Dn.no {s : SatT} {ch : List Int} {need : List Bool} {q : Int} (h : Dn s ch q) : ¬ ∃ p, Ed s ch need q p ∧ Pth s ch need p q := by
 induction h with
 | mk h ih =>
  rintro ⟨p, e, hp⟩
  have hap := hp.act e.1
  refine ih p e.2 hap.d ?_
  rcases hp.head with rfl | ⟨c, h1, h2⟩
  ·exact ⟨_, e, .refl⟩
  ·exact ⟨c, h1, h2.snoc e⟩
theorem Pth.cyc {s : SatT} {ch : List Int} {need : List Bool} {q b : Int} (h : Pth s ch need q b) (e : Ed s ch need b q) : ¬ Dn s ch q := by
 intro hd
 rcases h.head with rfl | ⟨c, h1, h2⟩
 ·exact hd.no ⟨_, e, .refl⟩
 ·exact hd.no ⟨c, h1, h2.snoc e⟩
open Classical in
noncomputable def cycB (s : SatT) (ch : List Int) (need : List Bool) : Bool := decide (CycP s ch need)
theorem cycB_true {s : SatT} {ch : List Int} {need : List Bool} (h : CycP s ch need) : true = cycB s ch need := by unfold cycB; simp [h]
theorem cycB_false {s : SatT} {ch : List Int} {need : List Bool} (h : ¬ CycP s ch need) : false = cycB s ch need := by unfold cycB; simp [h]
section
variable {s : SatT} (X : Ctx s) {ch : List Int} (hs : SelP s ch) {need : List Bool} (hN : NeedOk s ch need)
include X hs hN
theorem Act.kid {q p : Int} (h : Act s ch need q) (hp : p ∈ kidsC s (decC s ch q)) : repP s p ∧ getB need p = true := by
 have hr := kidsC_rep X (dec_rng X hs h.r h.d).1 hp
 refine ⟨hr, (hN.ok p hr.1).2 (.step ((hN.ok q h.r).1 h.n) ?_ hr)⟩
 unfold reqP; rw [if_pos h.d]; exact hp
theorem Act.kidAct {q p : Int} (h : Act s ch need q) (hp : p ∈ kidsC s (decC s ch q)) (hd : 0 ≤ decC s ch p) : Act s ch need p :=
 ⟨(Act.kid X hs hN h hp).1.1, (Act.kid X hs hN h hp).2, hd⟩
structure DoneI (s : SatT) (ch : List Int) (need done : List Bool) : Prop where
 len : done.length = s.1.length
 ok : ∀ q, inR s.1.length q → getB done q = true → Act s ch need q ∧ Dn s ch q
structure PassD (s : SatT) (ch : List Int) (need d0 : List Bool) (more : Bool) (done : List Bool) (k : Nat) : Prop where
 i : DoneI s ch need done
 le : cntF done ≤ cntF d0
 on : more = true → cntF done < cntF d0
 off : more = false → done = d0 ∧ ∀ q : Int, q < k → Act s ch need q → getB d0 q = false → ∃ p ∈ kidsC s (decC s ch q), getB d0 p = false ∧ 0 ≤ decC s ch p
theorem L83_2_ok (d0 : List Bool) (h0 : DoneI s ch need d0) :
 Ret (loopL (L83_2 (tabR s) ch need) (false, 0, d0)) fun r => ∃ more done, r = .inl (more, done) ∧ PassD s ch need d0 more done s.1.length := by
 have hn := X.n
 have hnl := hN.len
 refine ret_loop (fun q : Bool × Int × List Bool => ∃ k : Nat, q.2.1 = k ∧ k ≤ s.1.length ∧ PassD s ch need d0 q.1 q.2.2 k) (fun q => s.1.length - q.2.1.toNat) ?_ _ ⟨0, rfl, by omega, h0, Nat.le_refl _, (fun h => by cases h), fun _ => ⟨rfl, fun q h ha => by have := ha.r.1; omega⟩⟩
 rintro ⟨more, _, done⟩ ⟨k, rfl, hk, hp⟩
 dsimp only at hp
 have hw := wrap_succ k (by omega)
 simp only [L83_2, J83_1, J83_2, wq, reduceCtorEq, hnl, hw]
 refine ⟨fun hlt => ?_, fun hge => ⟨more, done, rfl, (show k = s.1.length by omega) ▸ hp⟩⟩
 have hkr : inR s.1.length (k : Int) := ⟨by omega, hlt⟩
 have hgn : gI need (k : Int) = some (getB need k) := gI_getB (by rw [hnl]; exact hkr)
 have hgd : gI done (k : Int) = some (getB done k) := gI_getB (by rw [hp.i.len]; exact hkr)
 have skip : (Act s ch need k → getB done k = false → False) → (∃ k' : Nat, (((k + 1 : Nat) : Int)) = k' ∧ k' ≤ s.1.length ∧ PassD s ch need d0 more done k') := fun hno =>
  ⟨k + 1, rfl, by omega, hp.i, hp.le, hp.on, fun h => ⟨(hp.off h).1, fun q hq ha hg => by
   by_cases e : q < k
   ·exact (hp.off h).2 q e ha hg
   ·obtain rfl : q = k := by omega
    exact (hno ha (by rw [(hp.off h).1]; exact hg)).elim⟩⟩
 have tail : ∀ f : Int, (f = if getB need k = true then decC s ch k else -1) → Ret (bif getB done k then some (Sum.inl (β := (Bool × List Bool) ⊕ ((Bool × Int × List Bool) ⊕ ((Bool × List Bool) ⊕ Bool))) (true, done)) else some (.inl (decide (f < 0), done))) fun a => Ret (Sum.elim (J83_3 (tabR s) ch more (k : Int) f) some a) fun a => Ret (Sum.elim (J83_1 (k : Int)) some a) (StepQ (fun q : Bool × Int × List Bool => ∃ k : Nat, q.2.1 = k ∧ k ≤ s.1.length ∧ PassD s ch need d0 q.1 q.2.2 k) (fun q => s.1.length - q.2.1.toNat) (fun r => ∃ more done, r = .inl (more, done) ∧ PassD s ch need d0 more done s.1.length) (more, (k : Int), done)) := by
  intro f hf
  simp only [J83_3, wq, reduceCtorEq]
  have fin : Ret (J83_1 (k : Int) (more, done)) (StepQ (fun q : Bool × Int × List Bool => ∃ k : Nat, q.2.1 = k ∧ k ≤ s.1.length ∧ PassD s ch need d0 q.1 q.2.2 k) (fun q => s.1.length - q.2.1.toNat) (fun r => ∃ more done, r = .inl (more, done) ∧ PassD s ch need d0 more done s.1.length) (more, (k : Int), done)) ↔ ((∃ k' : Nat, (((k + 1 : Nat) : Int)) = k' ∧ k' ≤ s.1.length ∧ PassD s ch need d0 more done k') ∧ s.1.length - (((k + 1 : Nat) : Int)).toNat < s.1.length - ((k : Int)).toNat) := by
   simp only [J83_1, wq, reduceCtorEq, hw]
  refine ⟨fun e => fin.2 ⟨skip fun _ h => (by rw [e] at h; cases h), by omega⟩, fun e => ⟨fun h => fin.2 ⟨skip fun ha _ => ?_, by omega⟩, fun h => ?_⟩⟩
  ·rw [if_pos ha.n] at hf; have := ha.d; omega
  ·have hne : getB need k = true := by
    cases hh : getB need k
    ·rw [hh, if_neg (by simp)] at hf; omega
    ·rfl
   rw [if_pos hne] at hf
   subst hf
   have ha : Act s ch need k := ⟨hkr, hne, h⟩
   obtain ⟨hdr, _⟩ := dec_rng X hs hkr h
   have hkl := X.kids.k _ (nodeAt_mem hdr)
   have hkr2 := X.kids.r _ (nodeAt_mem hdr)
   have hnd : gI (tabR s).1.1 (decC s ch k) = some (nodeAt s.1 (decC s ch k)) := nodeAt_get hdr
   rw [hnd]
   simp only [wq, reduceCtorEq]
   refine ret_loop (fun q : Bool × Int × List Bool => ∃ (ok : Bool) (j : Nat), q = (ok, (j : Int), done) ∧ j ≤ (nodeAt s.1 (decC s ch k)).2.2.length ∧ (ok = true ↔ ∀ p ∈ kidsK s (decC s ch k) j, getB done p = true ∨ decC s ch p < 0)) (fun q => (nodeAt s.1 (decC s ch k)).2.2.length - q.2.1.toNat) ?_ _ ⟨true, 0, rfl, by omega, by simp [kidsK]⟩
   rintro _ ⟨ok, j, rfl, hj, hok⟩
   have hw2 := wrap_succ j (by omega)
   simp only [L83_3, J83_4, wq, reduceCtorEq, hw2]
   refine ⟨fun hlt2 => ret_gI (by omega) hlt2 fun y hy hym => ?_, fun hge2 => ?_⟩
   ·have hyr := hkr2 y hym
    have hcy : gI (tabR s).2.1 y = some (atI (clsS s) y) := X.cget hyr
    have hcr := X.ci.rng hyr
    rw [gI_nat] at hy
    have hgk := kidsC_get X hy
    have hmk : ∀ p, p ∈ kidsK s (decC s ch k) (j + 1) ↔ p ∈ kidsK s (decC s ch k) j ∨ p = atI (clsS s) y := fun p => by
     unfold kidsK; rw [List.take_add_one, hgk]; simp
    have hgd2 : gI done (atI (clsS s) y) = some (getB done (atI (clsS s) y)) := gI_getB (by rw [hp.i.len]; exact hcr)
    rw [hcy]
    simp only [hgd2, F82_eq X hs.1 hcr, wq, reduceCtorEq]
    refine ⟨fun e1 => ⟨fun e2 => ⟨⟨_, j + 1, rfl, by omega, ?_⟩, by omega⟩, fun e2 => ⟨⟨_, j + 1, rfl, by omega, ?_⟩, by omega⟩⟩, fun e1 => ⟨⟨_, j + 1, rfl, by omega, ?_⟩, by omega⟩⟩
    ·refine ⟨fun _ p hp' => ?_, fun _ => rfl⟩
     rcases (hmk p).1 hp' with hp' | rfl
     ·exact hok.1 e1 p hp'
     ·exact .inl e2
    ·rw [decide_eq_true_eq]
     constructor
     ·intro e3 p hp'
      rcases (hmk p).1 hp' with hp' | rfl
      ·exact hok.1 e1 p hp'
      ·exact .inr e3
     ·intro hh
      rcases hh _ ((hmk _).2 (.inr rfl)) with h4 | h4
      ·rw [e2] at h4; cases h4
      ·exact h4
    ·refine ⟨fun h => (by cases h), fun hh => ?_⟩
     rw [hok.2 fun p hp' => hh p ((hmk p).2 (.inl hp'))] at e1; cases e1
   ·have hall : kidsK s (decC s ch k) j = kidsC s (decC s ch k) := by unfold kidsK; rw [List.take_of_length_le (by rw [kidsC_len X]; omega)]
    rw [hall] at hok
    have hdl : inR done.length (k : Int) := by rw [hp.i.len]; exact hkr
    simp only [hgd, wq, reduceCtorEq]
    refine ⟨fun e1 => ?_, fun e1 => ?_⟩
    ·simp only [J83_1, wq, reduceCtorEq, hw]
     have hcnt := cntF_set hdl e
     have hle := hp.le
     refine ⟨⟨k + 1, rfl, by omega, ⟨by rw [setI_len]; exact hp.i.len, fun q hq hg => ?_⟩, by omega, fun _ => by omega, fun h => by cases h⟩, by omega⟩
     rw [getB_set hdl hq.1] at hg
     split at hg
     ·subst ‹q = _›
      refine ⟨ha, .mk fun p hp' hd => ?_⟩
      rcases hok.1 e1 p hp' with h4 | h4
      ·exact (hp.i.ok p (Act.kid X hs hN ha hp').1.1 h4).2
      ·omega
     ·exact hp.i.ok q hq hg
    ·have hfin : (∃ k' : Nat, (((k + 1 : Nat) : Int)) = k' ∧ k' ≤ s.1.length ∧ PassD s ch need d0 more done k') := by
      refine ⟨k + 1, rfl, by omega, hp.i, hp.le, hp.on, fun h => ⟨(hp.off h).1, fun q hq ha' hg => ?_⟩⟩
      by_cases e2 : q < k
      ·exact (hp.off h).2 q e2 ha' hg
      ·obtain rfl : q = k := by omega
       have hno : ¬ ∀ p ∈ kidsC s (decC s ch k), getB done p = true ∨ decC s ch p < 0 := fun hh => by rw [hok.2 hh] at e1; cases e1
       obtain ⟨p, hp'⟩ := Classical.not_forall.1 hno
       obtain ⟨hp1, hp2⟩ := Classical.not_imp.1 hp'
       refine ⟨p, hp1, ?_, ?_⟩
       ·rw [← (hp.off h).1]
        cases hh : getB done p
        ·rfl
        ·exact absurd (.inl hh) hp2
       ·have := fun h4 => hp2 (.inr h4); omega
     exact fin.2 ⟨hfin, by omega⟩
 simp only [hgn, hgd, wq, reduceCtorEq, F82_eq X hs.1 hkr]
 simp only [wq, reduceCtorEq] at tail
 refine ⟨fun e => ?_, fun e => ?_⟩
 ·exact tail _ (by rw [if_pos e])
 ·exact tail (-1) (by rw [e]; simp)
theorem F83_eq : F83 (tabR s) ch need = some (cycB s ch need) := by
 refine Ret.eq ?_
 have hn := X.n
 have hnl := hN.len
 simp only [F83, wq, reduceCtorEq, hnl, Int.toNat_natCast]
 refine ⟨fun _ => ?_, fun h => absurd h (by omega)⟩
 refine ret_loopG (fun m (q : Bool × List Bool) => DoneI s ch need q.2 ∧ (q.1 = false → ∀ a, Act s ch need a → getB q.2 a = false → ∃ p ∈ kidsC s (decC s ch a), getB q.2 p = false ∧ 0 ≤ decC s ch p) ∧ m = cntF q.2 + (if q.1 = true then 1 else 0)) ?_ _ _ ⟨⟨by simp, fun q hq hg => by rw [getB_rep] at hg; cases hg⟩, (fun h => by cases h), rfl⟩
 rintro m ⟨more, done⟩ ⟨hi, hc, rfl⟩
 dsimp only at hi hc
 simp only [L83_1, wq, reduceCtorEq]
 refine ⟨fun ho => ?_, fun ho => ?_⟩
 ·subst ho
  refine (L83_2_ok X hs hN done hi).mono fun r _ ⟨more', done', er, hp'⟩ => ?_
  subst er
  rw [stepG_inl]
  refine ⟨_, ?_, hp'.i, fun h => ?_, rfl⟩
  ·cases more' with
   | true => have := hp'.on rfl; simp; omega
   | false => rw [(hp'.off rfl).1]; simp
  ·obtain ⟨e, h2⟩ := hp'.off h
   dsimp only
   rw [e]
   exact fun a ha hg => h2 a ha.r.2 ha hg
 ·have hall : ∀ a, Dn s ch a → Act s ch need a → getB done a = true := by
   intro a hd
   induction hd with
   | mk h ih =>
    rename_i a
    intro ha
    cases hg : getB done a
    ·obtain ⟨p, hp1, hp2, hp3⟩ := hc ho a ha hg
     rw [ih p hp1 hp3 (Act.kidAct X hs hN ha hp1 hp3)] at hp2; cases hp2
    ·rfl
  refine Ret.mono (Q := fun b => b = cycB s ch need) ?_ (fun b _ hb => by rw [stepG_inr]; exact hb)
  refine ret_loop (fun q : Int × List Bool => ∃ k : Nat, q = ((k : Int), done) ∧ k ≤ s.1.length ∧ ∀ a : Int, a < k → Act s ch need a → Dn s ch a) (fun q => s.1.length - q.1.toNat) ?_ _ ⟨0, rfl, by omega, fun a h ha => by have := ha.r.1; omega⟩
  rintro _ ⟨k, rfl, hk, hd⟩
  have hw := wrap_succ k (by omega)
  simp only [L83_4, J83_5, wq, reduceCtorEq, hnl, hw]
  refine ⟨fun hlt => ?_, fun hge => ?_⟩
  ·have hkr : inR s.1.length (k : Int) := ⟨by omega, hlt⟩
   have hgn : gI need (k : Int) = some (getB need k) := gI_getB (by rw [hnl]; exact hkr)
   have hgd : gI done (k : Int) = some (getB done k) := gI_getB (by rw [hi.len]; exact hkr)
   have next : (Act s ch need k → Dn s ch k) → (∃ k' : Nat, ((((k + 1 : Nat) : Int)), done) = ((k' : Int), done) ∧ k' ≤ s.1.length ∧ ∀ a : Int, a < k' → Act s ch need a → Dn s ch a) := fun h => ⟨k + 1, rfl, by omega, fun a ha haa => by
    by_cases e : a < k
    ·exact hd a e haa
    ·obtain rfl : a = k := by omega
     exact h haa⟩
   simp only [hgn, hgd, F82_eq X hs.1 hkr, wq, reduceCtorEq]
   refine ⟨fun e1 => ⟨fun e2 => ⟨fun e3 => ?_, fun e3 => ⟨next fun _ => (hi.ok _ hkr e3).2, by omega⟩⟩, fun e2 => ⟨next fun ha => by have := ha.d; omega, by omega⟩⟩, fun e1 => ⟨next fun ha => (by rw [ha.n] at e1; cases e1), by omega⟩⟩
   have ha : Act s ch need k := ⟨hkr, e1, e2⟩
   exact cycB_true ⟨_, ha, fun h => by rw [hall _ h ha] at e3; cases e3⟩
  ·exact cycB_false fun ⟨q, ha, h⟩ => h (hd q (by have := ha.r.2; omega) ha)
end
end Go.Dat
/-
 Cycles among decided classes: the program's depth first search.
-/
namespace Go.Dat
open Go.Eng
set_option linter.unusedSimpArgs false
set_option linter.unusedVariables false
set_option linter.unusedSectionVars false

def cntZ (l : List Int) : Nat := l.count 0
theorem cntZ_set {l : List Int} {i x : Int} (hi : inR l.length i) (h : atI l i = 0) (hx : x ≠ 0) : cntZ (setI l i x) + 1 = cntZ l := by
 have h1 := hi.1
 have h2 : i.toNat < l.length := by have := hi.2; omega
 have h3 : l[i.toNat] = 0 := by
  unfold atI at h
  rw [List.getElem?_eq_getElem h2] at h; exact h
 unfold cntZ setI
 rw [List.count_set h2, h3]
 have : 0 < l.count 0 := List.count_pos_iff.2 (by rw [← h3]; exact List.getElem_mem h2)
 simp [hx]
 omega
theorem cntZ_set_le {l : List Int} {i x : Int} (hi : inR l.length i) (hx : x ≠ 0) : cntZ (setI l i x) ≤ cntZ l := by
 have h2 : i.toNat < l.length := by have := hi.1; have := hi.2; omega
 unfold cntZ setI
 rw [List.count_set h2]
 simp [hx]
theorem atI_rep (n : Nat) (q : Int) : atI (List.replicate n 0) q = 0 := by
 unfold atI
 cases h : (List.replicate n (0 : Int))[q.toNat]? with
 | none => rfl
 | some r => exact (List.mem_replicate.1 (List.mem_of_getElem? h)).2

abbrev StC := Option TabT × List Int × List Bool × Bool × List Int
section
variable {s : SatT} (X : Ctx s) {ch : List Int} (hs : SelP s ch) {need : List Bool} (hN : NeedOk s ch need)
structure DI (s : SatT) (ch : List Int) (need : List Bool) (st : List Int) : Prop where
 len : st.length = s.1.length
 v : ∀ q, inR s.1.length q → atI st q = 0 ∨ atI st q = 1 ∨ atI st q = 2
 d1 : ∀ q, inR s.1.length q → atI st q = 1 → Act s ch need q
 d2 : ∀ q, inR s.1.length q → atI st q = 2 → Act s ch need q ∧ Dn s ch q
structure VisQ (s : SatT) (ch : List Int) (need : List Bool) (st st' : List Int) : Prop where
 i : DI s ch need st'
 one : ∀ q, inR s.1.length q → (atI st' q = 1 ↔ atI st q = 1)
 two : ∀ q, inR s.1.length q → atI st q = 2 → atI st' q = 2
 z : cntZ st' ≤ cntZ st
def VisR (s : SatT) (ch : List Int) (need : List Bool) (c : Int) (st : List Int) (r : StC) : Prop :=
 ∃ f st', r = (some (tabM s), ch, need, f, st') ∧ st'.length = s.1.length ∧ (f = true → CycP s ch need) ∧ (f = false → VisQ s ch need st st' ∧ (Act s ch need c → atI st' c = 2))
theorem VisQ.refl {st : List Int} (h : DI s ch need st) : VisQ s ch need st st := ⟨h, fun _ _ => Iff.rfl, fun _ _ h => h, Nat.le_refl _⟩
include X hs hN
theorem visit_found (n : Nat) (c : Int) (hc : inR s.1.length c) (st : List Int) (hl : st.length = s.1.length) : N96 (n + 1) c (some (tabM s)) ch need true st = some (some (tabM s), ch, need, true, st) := by
 refine Ret.eq ?_
 have hgn : gI need c = some (getB need c) := gI_getB (by rw [hN.len]; exact hc)
 show Ret (G96 (N96 n) c (some (tabM s)) ch need true st) _
 simp only [G96, F78_eq X hs.1 hc, hgn, wq, reduceCtorEq, J96_1]
theorem visit_ok : ∀ (n : Nat) (c : Int), repP s c → ∀ st : List Int, DI s ch need st → (∀ q, inR s.1.length q → atI st q = 1 → ∃ b, Pth s ch need q b ∧ Ed s ch need b c) → cntZ st < n →
 Ret (N96 n c (some (tabM s)) ch need false st) (VisR s ch need c st)
 | 0, c, hc, st, hi, h1, hz => by omega
 | n + 1, c, hc, st, hi, h1, hz => by
  have hgn : gI need c = some (getB need c) := gI_getB (by rw [hN.len]; exact hc.1)
  have hcl : inR st.length c := by rw [hi.len]; exact hc.1
  have hgs : gI st c = some (atI st c) := gI_inR hcl
  show Ret (G96 (N96 n) c (some (tabM s)) ch need false st) _
  simp only [G96, F78_eq X hs.1 hc.1, hgn, hgs, wq, reduceCtorEq, J96_1]
  have stop : (Act s ch need c → atI st c = 2) → VisR s ch need c st (some (tabM s), ch, need, false, st) := fun h => ⟨false, st, rfl, hi.len, (fun h => by cases h), fun _ => ⟨.refl hi, h⟩⟩
  refine ⟨fun e => stop fun ha => by have := ha.d; omega, fun e1 => ⟨fun e => stop fun ha => (by rw [ha.n] at e; cases e), fun e2 => ⟨fun e => stop fun _ => e, fun e3 => ?_⟩⟩⟩
  have ha : Act s ch need c := ⟨hc.1, e2, e1⟩
  refine ⟨fun e => ?_, fun e4 => ?_⟩
  ·obtain ⟨b, p1, p2⟩ := h1 c hc.1 e
   exact ⟨true, st, rfl, hi.len, fun _ => ⟨c, ha, p1.cyc p2⟩, fun h => by cases h⟩
  have e0 : atI st c = 0 := by rcases hi.v c hc.1 with h | h | h; exact h; exact absurd h e4; exact absurd h e3
  obtain ⟨hdr, _⟩ := dec_rng X hs hc.1 e1
  have hkl := X.kids.k _ (nodeAt_mem hdr)
  have hkr := X.kids.r _ (nodeAt_mem hdr)
  have hnd : gI (tabM s).1.1 (decC s ch c) = some (nodeAt s.1 (decC s ch c)) := nodeAt_get hdr
  simp only [hnd, wq, reduceCtorEq, Option.bind_some]
  have hz1 := cntZ_set hcl e0 (x := 1) (by omega)
  have i1 : DI s ch need (setI st c 1) := by
   refine ⟨by rw [setI_len]; exact hi.len, fun q hq => ?_, fun q hq h => ?_, fun q hq h => ?_⟩
   ·rw [atI_set hcl hq.1]; split
    ·exact .inr (.inl rfl)
    ·exact hi.v q hq
   ·rw [atI_set hcl hq.1] at h; split at h
    ·subst ‹q = c›; exact ha
    ·exact hi.d1 q hq h
   ·rw [atI_set hcl hq.1] at h; split at h
    ·omega
    ·exact hi.d2 q hq h
  refine ret_loop (fun q : Int × StC => ∃ (j : Nat) (f : Bool) (st' : List Int), q = ((j : Int), some (tabM s), ch, need, f, st') ∧ j ≤ (nodeAt s.1 (decC s ch c)).2.2.length ∧ st'.length = s.1.length ∧ (f = true → CycP s ch need) ∧ (f = false → VisQ s ch need (setI st c 1) st' ∧ ∀ p ∈ kidsK s (decC s ch c) j, Act s ch need p → atI st' p = 2)) (fun q => (nodeAt s.1 (decC s ch c)).2.2.length - q.1.toNat) ?_ _ ⟨0, false, _, rfl, by omega, i1.len, (fun h => by cases h), fun _ => ⟨.refl i1, fun p hp => by simp [kidsK] at hp⟩⟩
  rintro _ ⟨j, f, st', rfl, hj, hl', hf, hv⟩
  have hw := wrap_succ j (by omega)
  simp only [L96_1, wq, reduceCtorEq, hw, Option.bind_some]
  refine ⟨fun hlt => ret_gI (by omega) hlt fun y hy hym => ?_, fun hge => ?_⟩
  ·have hyr := hkr y hym
   have hcy : gI (tabM s).2.1 y = some (atI (clsS s) y) := X.cget hyr
   rw [hcy]
   simp only [wq, reduceCtorEq]
   rw [gI_nat] at hy
   have hgk := kidsC_get X hy
   have hpm : atI (clsS s) y ∈ kidsC s (decC s ch c) := List.mem_of_getElem? hgk
   have hprep := kidsC_rep X hdr hpm
   have hmk : ∀ p, p ∈ kidsK s (decC s ch c) (j + 1) ↔ p ∈ kidsK s (decC s ch c) j ∨ p = atI (clsS s) y := fun p => by
    unfold kidsK; rw [List.take_add_one, hgk]; simp
   cases f with
   | true =>
    obtain ⟨n', rfl⟩ : ∃ n', n = n' + 1 := ⟨n - 1, by omega⟩
    rw [visit_found X hs hN n' _ hprep.1 st' hl']
    simp only [wq, reduceCtorEq]
    exact ⟨⟨j + 1, true, st', rfl, by omega, hl', hf, fun h => by cases h⟩, by omega⟩
   | false =>
    obtain ⟨hq, hk⟩ := hv rfl
    have hzz := hq.z
    refine (visit_ok n _ hprep st' hq.i (fun q hqr h => ?_) (by omega)).mono fun r _ ⟨f2, st2, er, hl2, hf2, hv2⟩ => ?_
    ·have hh := (hq.one q hqr).1 h
     rw [atI_set hcl hqr.1] at hh
     split at hh
     ·subst ‹q = c›; exact ⟨q, .refl, ha, hpm⟩
     ·obtain ⟨b, p1, p2⟩ := h1 q hqr hh
      exact ⟨c, p1.snoc p2, ha, hpm⟩
    ·subst er
     refine ⟨⟨j + 1, f2, st2, rfl, by omega, hl2, hf2, fun h => ?_⟩, by omega⟩
     obtain ⟨w1, w2⟩ := hv2 h
     refine ⟨⟨w1.i, fun q hqr => (w1.one q hqr).trans (hq.one q hqr), fun q hqr h => w1.two q hqr (hq.two q hqr h), by have := w1.z; omega⟩, fun p hp hap => ?_⟩
     rcases (hmk p).1 hp with hp | rfl
     ·exact w1.two p hap.r (hk p hp hap)
     ·exact w2 hap
  ·have hcl' : inR st'.length c := by rw [hl']; exact hc.1
   simp only [gI_inR hcl', wq, reduceCtorEq]
   have hall : kidsK s (decC s ch c) j = kidsC s (decC s ch c) := by unfold kidsK; rw [List.take_of_length_le (by rw [kidsC_len X]; omega)]
   refine ⟨f, setI st' c 2, rfl, by rw [setI_len]; exact hl', hf, fun h => ?_⟩
   obtain ⟨hq, hk⟩ := hv h
   rw [hall] at hk
   have hd : Dn s ch c := .mk fun p hp hdp => by
    have hap := Act.kidAct X hs hN ha hp hdp
    exact (hq.i.d2 p hap.r (hk p hp hap)).2
   have hzl := cntZ_set_le hcl' (x := 2) (by omega)
   refine ⟨⟨⟨by rw [setI_len]; exact hl', fun q hqr => ?_, fun q hqr h => ?_, fun q hqr h => ?_⟩, fun q hqr => ?_, fun q hqr h => ?_, by have := hq.z; omega⟩, fun _ => by rw [atI_set hcl' hc.1.1, if_pos rfl]⟩
   ·rw [atI_set hcl' hqr.1]; split
    ·exact .inr (.inr rfl)
    ·exact hq.i.v q hqr
   ·rw [atI_set hcl' hqr.1] at h; split at h
    ·omega
    ·exact hq.i.d1 q hqr h
   ·rw [atI_set hcl' hqr.1] at h; split at h
    ·subst ‹q = c›; exact ⟨ha, hd⟩
    ·exact hq.i.d2 q hqr h
   ·rw [atI_set hcl' hqr.1]
    split
    ·subst ‹q = c›; rw [e0]; omega
    ·rename_i hne
     rw [hq.one q hqr, atI_set hcl hqr.1, if_neg hne]
   ·rw [atI_set hcl' hqr.1]
    split
    ·rfl
    ·rename_i hne
     refine hq.two q hqr ?_
     rw [atI_set hcl hqr.1, if_neg hne]; exact h
theorem F80_eq : F80 (some (tabM s)) ch need = some (cycB s ch need) := by
 refine Ret.eq ?_
 have hn := X.n
 have hcl := hs.1
 have hrl := repsM_len (clsS s) s.1.length
 simp only [F80, wq, reduceCtorEq, Int.toNat_natCast, Option.bind_some]
 refine ⟨fun _ => ?_, fun h => absurd h (by omega)⟩
 have hrep : ∀ {k : Nat} {q : Int}, (repsM (clsS s) s.1.length)[k]? = some q → repP s q := fun {k q} h => by
  have hm := List.mem_of_getElem? h
  unfold repsM at hm
  rw [List.mem_filter] at hm
  obtain ⟨h1, h2⟩ := hm
  unfold idN at h1
  obtain ⟨i, hi, rfl⟩ := List.mem_map.1 h1
  have := List.mem_range.1 hi
  exact ⟨⟨by omega, by omega⟩, by simpa using h2⟩
 have hall : ∀ q, repP s q → q ∈ repsM (clsS s) s.1.length := fun q h => by
  unfold repsM
  rw [List.mem_filter]
  refine ⟨List.mem_map.2 ⟨q.toNat, List.mem_range.2 (by have := h.1.1; have := h.1.2; omega), by have := h.1.1; omega⟩, by simp [h.2]⟩
 refine ret_loop (fun q : Int × Bool × Option TabT × List Int × List Bool × List Int => ∃ (k : Nat) (f : Bool) (st : List Int), q = ((k : Int), f, some (tabM s), ch, need, st) ∧ k ≤ (repsM (clsS s) s.1.length).length ∧ st.length = s.1.length ∧ (f = true → CycP s ch need) ∧ (f = false → DI s ch need st ∧ (∀ q, inR s.1.length q → atI st q ≠ 1) ∧ ∀ p ∈ (repsM (clsS s) s.1.length).take k, Act s ch need p → atI st p = 2)) (fun q => (repsM (clsS s) s.1.length).length - q.1.toNat) ?_ _ ⟨0, false, List.replicate ch.length 0, rfl, by omega, by simp; omega, (fun h => by cases h), fun _ => ⟨⟨by simp; omega, fun q _ => .inl (atI_rep _ _), fun q _ h => (by rw [atI_rep] at h; omega), fun q _ h => (by rw [atI_rep] at h; omega)⟩, fun q _ => (by rw [atI_rep]; omega), fun p hp => by simp at hp⟩⟩
 rintro _ ⟨k, f, st, rfl, hk, hl, hf, hv⟩
 have hw := wrap_succ k (by omega)
 have htr : (tabM s).2.2.1 = repsM (clsS s) s.1.length := rfl
 simp only [L80_1, wq, reduceCtorEq, hw, htr]
 refine ⟨fun hlt => ret_gI (by omega) hlt fun c hc hcm => ?_, fun hge => ?_⟩
 ·rw [gI_nat] at hc
  have hcr := hrep hc
  show Ret (N96 1000 c (some (tabM s)) ch need f st) _
  cases f with
  | true =>
   rw [visit_found X hs hN 999 c hcr.1 st hl]
   simp only [wq, reduceCtorEq]
   exact ⟨⟨k + 1, true, st, rfl, by omega, hl, hf, fun h => by cases h⟩, by omega⟩
  | false =>
   obtain ⟨hi, h1, hk2⟩ := hv rfl
   have hz : cntZ st < 1000 := by
    have : cntZ st ≤ st.length := List.count_le_length
    omega
   refine (visit_ok X hs hN 1000 c hcr st hi (fun q hq h => absurd h (h1 q hq)) hz).mono fun r _ ⟨f2, st2, er, hl2, hf2, hv2⟩ => ?_
   subst er
   refine ⟨⟨k + 1, f2, st2, rfl, by omega, hl2, hf2, fun h => ?_⟩, by omega⟩
   obtain ⟨w1, w2⟩ := hv2 h
   refine ⟨w1.i, fun q hq e => h1 q hq ((w1.one q hq).1 e), fun p hp hap => ?_⟩
   rw [List.take_add_one, hc] at hp
   rcases List.mem_append.1 hp with hp | hp
   ·exact w1.two p hap.r (hk2 p hp hap)
   ·rw [show p = c by simpa using hp] at hap ⊢; exact w2 hap
 ·cases f with
  | true => exact cycB_true (hf rfl)
  | false =>
   obtain ⟨hi, _, hk2⟩ := hv rfl
   rw [List.take_of_length_le (by omega)] at hk2
   exact cycB_false fun ⟨q, ha, h⟩ => h (hi.d2 q ha.r (hk2 q (hall q (Reach.rep X ((hN.ok q ha.r).1 ha.n))) ha)).2
end
end Go.Dat
/-
 The lower bound: the program's and the reference's answer.
-/
namespace Go.Dat
open Go.Eng
set_option linter.unusedSimpArgs false
set_option linter.unusedVariables false
set_option linter.unusedSectionVars false

noncomputable def lstM (s : SatT) (row : List Int) : Nat → Int
 | 0 => -1
 | k + 1 => if lstM s row k < 0 ∨ ncM (nodeAt s.1 (atI row (k : Int))) < lstM s row k then ncM (nodeAt s.1 (atI row (k : Int))) else lstM s row k
theorem lstM_bd (s : SatT) (row : List Int) : ∀ k, -1 ≤ lstM s row k ∧ lstM s row k ≤ 20 ∧ (0 < k → 0 ≤ lstM s row k)
 | 0 => ⟨by simp [lstM], by simp [lstM], fun h => by omega⟩
 | k + 1 => by
  have ih := lstM_bd s row k
  obtain ⟨_, _, h1, h2⟩ := F76_eq (nodeAt s.1 (atI row (k : Int)))
  unfold lstM
  split <;> refine ⟨by omega, by omega, fun _ => by omega⟩
noncomputable def lbS (s : SatT) (ch : List Int) (need : List Bool) (a : List Int × List Int × Int) (q : Int) : List Int × List Int × Int :=
 if getB need q = true then
  if 0 ≤ decC s ch q then (a.1 ++ [q], a.2.1, IntKind.wrap .i64 (a.2.2 + ncM (nodeAt s.1 (decC s ch q))))
  else (a.1 ++ [q], a.2.1 ++ [q], IntKind.wrap .i64 (a.2.2 + lstM s (rowAt (candS s) q) (rowAt (candS s) q).length))
 else a
noncomputable def lbF (s : SatT) (ch : List Int) (need : List Bool) (l : List Int) : List Int × List Int × Int := l.foldl (lbS s ch need) ([], [], 0)
theorem lbF_snoc (s : SatT) (ch : List Int) (need : List Bool) (l : List Int) (q : Int) : lbF s ch need (l ++ [q]) = lbS s ch need (lbF s ch need l) q := by
 unfold lbF; rw [List.foldl_append]; rfl
theorem lbS_len (s : SatT) (ch : List Int) (need : List Bool) (a : List Int × List Int × Int) (q : Int) : (lbS s ch need a q).1.length ≤ a.1.length + 1 ∧ (lbS s ch need a q).2.1.length ≤ a.2.1.length + 1 := by
 unfold lbS
 split
 ·split <;> simp
 ·simp
theorem lbF_len (s : SatT) (ch : List Int) (need : List Bool) (l : List Int) : (lbF s ch need l).1.length ≤ l.length ∧ (lbF s ch need l).2.1.length ≤ l.length := by
 have key : ∀ (l : List Int) (a : List Int × List Int × Int), (l.foldl (lbS s ch need) a).1.length ≤ a.1.length + l.length ∧ (l.foldl (lbS s ch need) a).2.1.length ≤ a.2.1.length + l.length := by
  intro l
  induction l with
  | nil => intro a; simp
  | cons q l ih =>
   intro a
   have h1 := ih (lbS s ch need a q)
   have h2 := lbS_len s ch need a q
   simp only [List.foldl_cons, List.length_cons]
   omega
 have := key l ([], [], 0)
 simpa [lbF] using this
noncomputable def lbM (s : SatT) (ch : List Int) (need : List Bool) : List Int × List Int × Int × Bool :=
 let r := lbF s ch need (repsM (clsS s) s.1.length)
 (r.1, r.2.1, r.2.2, !cycB s ch need)
section
variable {s : SatT} (X : Ctx s) {ch : List Int} (hs : SelP s ch) {need : List Bool} (hN : NeedOk s ch need)
include X hs hN
theorem reps_get {k : Nat} {q : Int} (h : (repsM (clsS s) s.1.length)[k]? = some q) : repP s q := by
 have hm := List.mem_of_getElem? h
 unfold repsM at hm
 rw [List.mem_filter] at hm
 obtain ⟨h1, h2⟩ := hm
 unfold idN at h1
 obtain ⟨i, hi, rfl⟩ := List.mem_map.1 h1
 have := List.mem_range.1 hi
 exact ⟨⟨by omega, by omega⟩, by simpa using h2⟩
theorem L53_4_ok : Ret (loopL (L53_4 (some (tabM s)) ch (tabM s)) (0, 0, false, 0, false, need, [], [])) fun r => r = lbM s ch need := by
 have hn := X.n
 have hrl := repsM_len (clsS s) s.1.length
 have htr : (tabM s).2.2.1 = repsM (clsS s) s.1.length := rfl
 refine ret_loop (fun q : Int × Int × Bool × Int × Bool × List Bool × List Int × List Int => ∃ k : Nat, k ≤ (repsM (clsS s) s.1.length).length ∧ q = ((k : Int), 0, false, (lbF s ch need ((repsM (clsS s) s.1.length).take k)).2.2, false, need, (lbF s ch need ((repsM (clsS s) s.1.length).take k)).1, (lbF s ch need ((repsM (clsS s) s.1.length).take k)).2.1)) (fun q => (repsM (clsS s) s.1.length).length - q.1.toNat) ?_ _ ⟨0, by omega, by simp [lbF]⟩
 rintro _ ⟨k, hk, rfl⟩
 have hw := wrap_succ k (by omega)
 simp only [L53_4, J53_1, wq, reduceCtorEq, hw, htr]
 refine ⟨fun hlt => ret_gI (by omega) hlt fun q hq hqm => ?_, fun hge => ?_⟩
 ·rw [gI_nat] at hq
  have hrep := reps_get X hs hN hq
  have hgn : gI need q = some (getB need q) := gI_getB (by rw [hN.len]; exact hrep.1)
  have hlen := lbF_len s ch need ((repsM (clsS s) s.1.length).take k)
  rw [List.length_take] at hlen
  have hnext : lbF s ch need ((repsM (clsS s) s.1.length).take (k + 1)) = lbS s ch need (lbF s ch need ((repsM (clsS s) s.1.length).take k)) q := by
   rw [List.take_add_one, hq]; exact lbF_snoc _ _ _ _ _
  generalize lbF s ch need ((repsM (clsS s) s.1.length).take k) = a at *
  simp only [hgn, wq, reduceCtorEq, F78_eq X hs.1 hrep.1, Option.bind_some]
  refine ⟨fun e => ⟨⟨k + 1, by omega, ?_⟩, by omega⟩, fun e => ⟨fun _ => ⟨fun hd => ?_, fun hd => ⟨fun _ => ?_, fun h => absurd h (by simp only [List.length_cons, List.length_nil]; omega)⟩⟩, fun h => absurd h (by simp only [List.length_cons, List.length_nil]; omega)⟩⟩
  ·rw [hnext, lbS, if_neg (by rw [e]; simp)]
  ·have hnd : gI (tabM s).1.1 (decC s ch q) = some (nodeAt s.1 (decC s ch q)) := nodeAt_get (dec_rng X hs hrep.1 hd).1
   rw [hnd]
   simp only [wq, reduceCtorEq, (F76_eq _).1]
   refine ⟨⟨k + 1, by omega, ?_⟩, by omega⟩
   rw [hnext, lbS, if_pos e, if_pos hd]
  ·have htl := X.tlen
   have hq' : inR (tabM s).2.2.2.length q := by show inR (candS s).length q; rw [htl]; exact hrep.1
   rw [F42_eq, if_pos hq']
   show Ret (some (rowAt (candS s) q)) _
   rw [ret_some]
   have hrowl := X.cI.len q hrep.1
   refine ret_loop (fun st : Int × Int × Int × Bool × Int × Bool × List Bool × List Int × List Int => ∃ j : Nat, j ≤ (rowAt (candS s) q).length ∧ st = (lstM s (rowAt (candS s) q) j, (j : Int), 0, false, a.2.2, false, need, a.1 ++ [q], a.2.1 ++ [q])) (fun st => (rowAt (candS s) q).length - st.2.1.toNat) ?_ _ ⟨0, by omega, rfl⟩
   rintro _ ⟨j, hj, rfl⟩
   have hw2 := wrap_succ j (by omega)
   simp only [L53_5, J53_1, J53_2, J53_3, wq, reduceCtorEq, hw, hw2, Option.bind_some]
   refine ⟨fun hlt2 => ret_gI (by omega) hlt2 fun f hf hfm => ?_, fun hge2 => ?_⟩
   ·have hfr := (X.cI.mem q hrep.1 f hfm).1
    have hnd : gI (tabM s).1.1 f = some (nodeAt s.1 f) := nodeAt_get hfr
    have hat := gI_atI hf
    rw [hnd]
    simp only [wq, reduceCtorEq, (F76_eq _).1]
    have hl1 : lstM s (rowAt (candS s) q) (j + 1) = if lstM s (rowAt (candS s) q) j < 0 ∨ ncM (nodeAt s.1 f) < lstM s (rowAt (candS s) q) j then ncM (nodeAt s.1 f) else lstM s (rowAt (candS s) q) j := by
     conv => lhs; unfold lstM
     rw [hat]
    refine ⟨fun h1 => ⟨⟨j + 1, by omega, ?_⟩, by omega⟩, fun h1 => ⟨fun h2 => ⟨⟨j + 1, by omega, ?_⟩, by omega⟩, fun h2 => ⟨⟨j + 1, by omega, ?_⟩, by omega⟩⟩⟩
    ·rw [hl1, if_pos (.inl h1)]
    ·rw [hl1, if_pos (.inr h2)]
    ·rw [hl1, if_neg (by omega)]
   ·have : j = (rowAt (candS s) q).length := by omega
    refine ⟨⟨k + 1, by omega, ?_⟩, by omega⟩
    rw [hnext, lbS, if_pos e, if_neg (by omega), ← this]
 ·rw [F80_eq X hs hN]
  simp only [wq, reduceCtorEq]
  rw [List.take_of_length_le (by omega)]
  rfl
theorem L55_4_ok : Ret (loopL (L55_4 (tabR s) ch) (0, 0, need, [])) fun r => r = (lbM s ch need).2 := by
 have hn := X.n
 have hcl : (tabR s).2.1.length = s.1.length := X.clen
 refine ret_loop (fun q : Int × Int × List Bool × List Int => ∃ k : Nat, k ≤ s.1.length ∧ q = ((lbF s ch need (repsM (clsS s) k)).2.2, (k : Int), need, (lbF s ch need (repsM (clsS s) k)).2.1)) (fun q => s.1.length - q.2.1.toNat) ?_ _ ⟨0, by omega, by simp [lbF, repsM, idN]⟩
 rintro _ ⟨k, hk, rfl⟩
 have hw := wrap_succ k (by omega)
 simp only [L55_4, J55_4, wq, reduceCtorEq, hw, hcl]
 refine ⟨fun hlt => ?_, fun hge => ?_⟩
 ·have hkr : inR s.1.length (k : Int) := ⟨by omega, hlt⟩
  have hgn : gI need (k : Int) = some (getB need k) := gI_getB (by rw [hN.len]; exact hkr)
  have hlen := lbF_len s ch need (repsM (clsS s) k)
  have hrl := repsM_len (clsS s) k
  have hrep : getB need k = true → repP s (k : Int) := fun e => Reach.rep X ((hN.ok _ hkr).1 e)
  have hnext : getB need k = true → lbF s ch need (repsM (clsS s) (k + 1)) = lbS s ch need (lbF s ch need (repsM (clsS s) k)) k := fun e => by
   rw [repsM_succ, if_pos (hrep e).2]; exact lbF_snoc _ _ _ _ _
  have hnext0 : getB need k = false → lbF s ch need (repsM (clsS s) (k + 1)) = lbF s ch need (repsM (clsS s) k) := fun e => by
   rw [repsM_succ]
   split
   ·rw [lbF_snoc, lbS, if_neg (by rw [e]; simp)]
   ·rfl
  generalize lbF s ch need (repsM (clsS s) k) = a at *
  simp only [hgn, wq, reduceCtorEq, F82_eq X hs.1 hkr]
  refine ⟨fun e => ⟨⟨k + 1, by omega, ?_⟩, by omega⟩, fun e => ⟨fun hd => ?_, fun hd => ⟨fun _ => ?_, fun h => absurd h (by simp only [List.length_cons, List.length_nil]; omega)⟩⟩⟩
  ·rw [hnext0 e]
  ·have hnd : gI (tabR s).1.1 (decC s ch k) = some (nodeAt s.1 (decC s ch k)) := nodeAt_get (dec_rng X hs hkr hd).1
   rw [hnd]
   simp only [wq, reduceCtorEq, (F76_eq _).2.1]
   refine ⟨⟨k + 1, by omega, ?_⟩, by omega⟩
   rw [hnext e, lbS, if_pos e, if_pos hd]
  ·have htg : gI (tabR s).2.2 (k : Int) = some (rowAt (candS s) k) := X.tget hkr
   have hrowl := X.cI.len _ hkr
   obtain ⟨f0, r0, hcons⟩ := List.exists_cons_of_ne_nil (row_ne X (hrep e))
   have hpos : 0 < (rowAt (candS s) k).length := by rw [hcons]; simp
   have hg0 : gI (rowAt (candS s) k) 0 = some f0 := by rw [hcons]; rfl
   have hf0 := (X.cI.mem _ hkr f0 (by rw [hcons]; simp)).1
   have hnd : gI (tabR s).1.1 f0 = some (nodeAt s.1 f0) := nodeAt_get hf0
   simp only [htg, hg0, hnd, wq, reduceCtorEq, (F76_eq _).2.1]
   have hl0 : lstM s (rowAt (candS s) k) 1 = ncM (nodeAt s.1 f0) := by
    have : atI (rowAt (candS s) k) ((0 : Nat) : Int) = f0 := by rw [hcons]; rfl
    unfold lstM; rw [if_pos (.inl (by simp [lstM])), this]
   refine ret_loop (fun st : Int × Int × List Bool × List Int => ∃ j : Nat, j ≤ (rowAt (candS s) k).length ∧ st = (lstM s (rowAt (candS s) k) (max j 1), (j : Int), need, a.2.1 ++ [(k : Int)])) (fun st => (rowAt (candS s) k).length - st.2.1.toNat) ?_ _ ⟨0, by omega, by show _ = (lstM s (rowAt (candS s) k) 1, _, _, _); rw [hl0]; rfl⟩
   rintro _ ⟨j, hj, rfl⟩
   have hw2 := wrap_succ j (by omega)
   simp only [L55_5, J55_4, htg, wq, reduceCtorEq, hw, hw2]
   refine ⟨fun hlt2 => ret_gI (by omega) hlt2 fun f hf hfm => ?_, fun hge2 => ?_⟩
   ·have hfr := (X.cI.mem _ hkr f hfm).1
    have hnd : gI (tabR s).1.1 f = some (nodeAt s.1 f) := nodeAt_get hfr
    have hat := gI_atI hf
    rw [hnd]
    simp only [wq, reduceCtorEq, (F76_eq _).2.1]
    refine ⟨⟨j + 1, by omega, ?_⟩, by omega⟩
    have hb := lstM_bd s (rowAt (candS s) k) (max j 1)
    congr 1
    by_cases hj0 : j = 0
    ·subst hj0
     rw [gI_nat] at hf
     have hfe : f = f0 := by rw [hcons] at hf; simpa using hf.symm
     subst hfe
     show (if ncM (nodeAt s.1 f) < lstM s (rowAt (candS s) k) 1 then _ else lstM s (rowAt (candS s) k) 1) = lstM s (rowAt (candS s) k) 1
     rw [hl0]; simp
    ·have e1 : max j 1 = j := by omega
     have e2 : max (j + 1) 1 = j + 1 := by omega
     rw [e1] at hb
     rw [e1, e2]
     conv => rhs; unfold lstM
     rw [hat]
     have := hb.2.2 (by omega)
     by_cases hc : ncM (nodeAt s.1 f) < lstM s (rowAt (candS s) k) j
     ·rw [if_pos hc, if_pos (.inr hc)]
     ·rw [if_neg hc, if_neg (by omega)]
   ·have : max j 1 = (rowAt (candS s) k).length := by omega
    refine ⟨⟨k + 1, by omega, ?_⟩, by omega⟩
    rw [hnext e, lbS, if_pos e, if_neg (by omega), this]
 ·rw [F83_eq X hs hN]
  simp only [wq, reduceCtorEq]
  have : k = s.1.length := by omega
  subst this
  rfl
end
theorem lowerBound_agree {s : SatT} (h : SatH s) (hn : s.1.length ≤ 900) (ch : List Int) : ∃ a, F24 s ch = some a ∧ F25 s ch = some a ∧ a.1.length ≤ 1000000 ∧ (a = ([], 0, false) ∨ ValidP s ∧ SelP s ch ∧ ∃ need, NeedOk s ch need ∧ a = (lbM s ch need).2) := by
 simp only [F24, F25, F40_eq s h, F11_eq s h]
 cases hb : validB s
 ·refine ⟨([], 0, false), ?_, ?_, by simp, .inl rfl⟩
  ·simp [J24_1]
  ·simp
 ·have X : Ctx s := ⟨h, validB_iff.1 hb, hn⟩
  simp only [cond_true, Option.bind_some, Bool.not_true, cond_false, F52_eq X, F43_eq h X.v, F54_eq X]
  cases hsb : selB s ch
  ·refine ⟨([], 0, false), ?_, ?_, by simp, .inl rfl⟩
   ·simp [J24_1]
   ·simp
  ·have hs := selB_iff.1 hsb
   obtain ⟨r1, e1, need1, hN1, q1⟩ := analyze_need X hs (Q := fun r => ∃ need, NeedOk s ch need ∧ r = lbM s ch need) fun need hN => (L53_4_ok X hs hN).mono fun r _ hr => ⟨need, hN, hr⟩
   obtain ⟨r2, e2, need2, hN2, q2⟩ := ref_need X hs (Q := fun r => ∃ need, NeedOk s ch need ∧ r = (lbM s ch need).2) fun need hN => (L55_4_ok X hs hN).mono fun r _ hr => ⟨need, hN, hr⟩
   obtain rfl := hN1.uniq hN2
   refine ⟨(lbM s ch need1).2, ?_, ?_, ?_, .inr ⟨X.v, hs, need1, hN1, rfl⟩⟩
   ·simp [J24_1, e1, q1]
   ·simp [e2, q2]
   ·have h1 := lbF_len s ch need1 (repsM (clsS s) s.1.length)
    have h2 := repsM_len (clsS s) s.1.length
    show (lbF s ch need1 (repsM (clsS s) s.1.length)).2.1.length ≤ 1000000
    omega
end Go.Dat
/-
 Selections that are tried; BoundMatches as a plain law.
-/
namespace Go.Dat
open Go.Eng
set_option linter.unusedSimpArgs false
set_option linter.unusedVariables false
set_option linter.unusedSectionVars false

structure SelQ (s : SatT) (ch : List Int) : Prop where
 len : ch.length ≤ s.1.length
 sel : ValidP s → SelP s ch
theorem F22_ok {s : SatT} (h : SatH s) (hn : s.1.length ≤ 900) (l : List Int) : Ret (F22 s l) (SelQ s) := by
 unfold F22
 rw [F14_eq s h]
 simp only [wq, reduceCtorEq]
 cases hb : validB s
 ·simp only [cond_false]
  refine ⟨fun _ => ?_, fun h => absurd h (by simp)⟩
  refine ret_loop (fun q : Int × List Int => q = (0, [])) (fun _ => 0) ?_ _ rfl
  rintro _ rfl
  simp only [L22_1, wq, reduceCtorEq]
  exact ⟨fun hlt => by simp at hlt, fun _ => ⟨by simp, fun hv => by rw [validB_true hv] at hb; cases hb⟩⟩
 ·have hv := validB_iff.1 hb
  have X : Ctx s := ⟨h, hv, hn⟩
  have hcl := X.clen
  simp only [cond_true, hcl, Int.toNat_natCast]
  refine ⟨fun _ => ?_, fun h => absurd h (by omega)⟩
  refine ret_loop (fun q : Int × List Int => ∃ (i : Nat) (out : List Int), q = ((i : Int), out) ∧ i ≤ s.1.length ∧ out.length = s.1.length ∧ ∀ j, inR s.1.length j → j < i → atI out j = -1 ∨ (atI (clsS s) j = j ∧ inR s.1.length (atI out j) ∧ atI (clsS s) (atI out j) = j)) (fun q => s.1.length - q.1.toNat) ?_ _ ⟨0, _, rfl, by omega, by simp, fun j h1 h2 => by have := h1.1; omega⟩
  rintro _ ⟨i, out, rfl, hi, hol, hO⟩
  have hw := wrap_succ i (by omega)
  simp only [L22_1, J22_1, wq, reduceCtorEq, hcl, hw]
  refine ⟨fun hlt => ?_, fun hge => ⟨by omega, fun _ => ⟨hol, fun j hj => hO j hj (by have := hj.2; omega)⟩⟩⟩
  have hir : inR s.1.length (i : Int) := ⟨by omega, hlt⟩
  have hil : inR out.length (i : Int) := by rw [hol]; exact hir
  simp only [gI_inR hil, X.cget hir, wq, reduceCtorEq]
  have next : ∀ v : Int, v = -1 ∨ (atI (clsS s) (i : Int) = i ∧ inR s.1.length v ∧ atI (clsS s) v = i) → ∀ o : List Int, o.length = s.1.length → (∀ j, 0 ≤ j → atI o j = if j = i then v else atI out j) → (∃ (i' : Nat) (out' : List Int), (((i + 1 : Nat) : Int), o) = ((i' : Int), out') ∧ i' ≤ s.1.length ∧ out'.length = s.1.length ∧ ∀ j, inR s.1.length j → j < i' → atI out' j = -1 ∨ (atI (clsS s) j = j ∧ inR s.1.length (atI out' j) ∧ atI (clsS s) (atI out' j) = j)) := by
   intro v hv o ho hat
   refine ⟨i + 1, o, rfl, by omega, ho, fun j hj hlt => ?_⟩
   rw [hat j hj.1]
   split
   ·subst ‹j = _›; exact hv
   ·exact hO j hj (by omega)
  have s1 : ∀ j, 0 ≤ j → atI (setI out (i : Int) (-1)) j = if j = i then -1 else atI out j := fun j hj => atI_set hil hj
  refine ⟨fun e => ⟨next (-1) (.inl rfl) _ (by rw [setI_len]; exact hol) s1, by omega⟩, fun e => ?_⟩
  refine ret_loop (fun q : Int × List Int × List Int => ∃ (k : Nat) (all : List Int), q = ((k : Int), setI out (i : Int) (-1), all) ∧ i ≤ k ∧ k ≤ s.1.length ∧ all.length + i ≤ k ∧ (i < k → 0 < all.length) ∧ ∀ x ∈ all, inR s.1.length x ∧ atI (clsS s) x = i) (fun q => s.1.length - q.1.toNat) ?_ _ ⟨i, [], rfl, by omega, by omega, by simp, fun h => by omega, fun x hx => by cases hx⟩
  rintro _ ⟨k, all, rfl, hk1, hk2, hal, hpos, hall⟩
  have hw2 := wrap_succ k (by omega)
  simp only [L22_2, J22_2, wq, reduceCtorEq, hcl, hw2]
  refine ⟨fun hlt2 => ?_, fun hge2 => ?_⟩
  ·have hkr : inR s.1.length (k : Int) := ⟨by omega, hlt2⟩
   simp only [X.cget hkr, wq, reduceCtorEq]
   refine ⟨fun e2 => ⟨fun _ => ⟨⟨k + 1, _, rfl, by omega, by omega, by simp; omega, fun _ => by simp, fun x hx => ?_⟩, by omega⟩, fun h => absurd h (by simp only [List.length_cons, List.length_nil]; omega)⟩, fun e2 => ⟨⟨k + 1, all, rfl, by omega, by omega, by omega, fun _ => ?_, hall⟩, by omega⟩⟩
   ·rcases List.mem_append.1 hx with hx | hx
    ·exact hall x hx
    ·rw [List.mem_singleton.1 hx]; exact ⟨hkr, e2⟩
   ·refine hpos ?_
    by_cases h : i < k
    ·exact h
    ·obtain rfl : i = k := by omega
     exact absurd e e2
  ·have hp : 0 < all.length := hpos (by omega)
   have J : ∀ n : Int, Ret (J22_3 (i : Int) (n, setI out (i : Int) (-1), all)) fun a => Ret (Sum.elim (J22_1 (i : Int)) some a) (StepQ (fun q : Int × List Int => ∃ (i : Nat) (out : List Int), q = ((i : Int), out) ∧ i ≤ s.1.length ∧ out.length = s.1.length ∧ ∀ j, inR s.1.length j → j < i → atI out j = -1 ∨ (atI (clsS s) j = j ∧ inR s.1.length (atI out j) ∧ atI (clsS s) (atI out j) = j)) (fun q => s.1.length - q.1.toNat) (SelQ s) ((i : Int), out)) := by
    intro n
    have hil2 : inR (setI out (i : Int) (-1)).length (i : Int) := by rw [setI_len]; exact hil
    simp only [J22_3, J22_1, wq, reduceCtorEq, hw]
    refine F29_ok (by omega) (by omega) fun r r0 r1 => ⟨fun _ => ?_, fun _ => ⟨next (-1) (.inl rfl) _ (by rw [setI_len]; exact hol) s1, by omega⟩⟩
    refine F29_ok (by omega) (by omega) fun p p0 p1 => ret_gI p0 p1 fun y hy hym => ?_
    simp only [ret_eq hy, gI_inR hil2, wq, reduceCtorEq]
    refine ⟨next y (.inr ⟨e, (hall y hym).1, (hall y hym).2⟩) _ (by rw [setI_len, setI_len]; exact hol) fun j hj => ?_, by omega⟩
    rw [atI_set hil2 hj]
    split
    ·rfl
    ·rw [s1 j hj, if_neg ‹_›]
   refine ⟨fun h1 => ret_gI (by omega) (by omega) fun y hy _ => J y, fun _ => J 0⟩
theorem tmod60 (i : Nat) : 0 ≤ Int.tmod (i : Int) 60 ∧ Int.tmod (i : Int) 60 < 60 := by
 have h := tmodN i 60
 have : Int.tmod (i : Int) 60 = ((i % 60 : Nat) : Int) := h
 omega
def keepB (mask : Int) (j : Int) : Bool := !(bitsI .i64 (BitVec.ofInt (IntKind.bits .i64) (Int.fdiv mask (2 ^ (min (Int.toNat (IntKind.wrap .u64 (Int.tmod j 60))) (IntKind.bits .i64)))) &&& BitVec.ofInt (IntKind.bits .i64) 1) == 0)
def partM (mask : Int) (ch : List Int) (k : Nat) : List Int := (List.range k).map fun (j : Nat) => if keepB mask j then atI ch j else -1
theorem F23_eq (ch : List Int) (mask : Int) (hl : ch.length ≤ 900000) : F23 ch mask = some (partM mask ch ch.length) := by
 refine Ret.eq ?_
 simp only [F23, wq, reduceCtorEq]
 refine ⟨fun _ => ?_, fun h => absurd h (by omega)⟩
 refine ret_loop (fun q : Int × List Int => ∃ k : Nat, k ≤ ch.length ∧ q = ((k : Int), partM mask ch k ++ ch.drop k)) (fun q => ch.length - q.1.toNat) ?_ _ ⟨0, by omega, by simp [partM]⟩
 rintro _ ⟨k, hk, rfl⟩
 have hw := wrap_succ k (by omega)
 have hpl : (partM mask ch k).length = k := by simp [partM]
 have hlen : (partM mask ch k ++ ch.drop k).length = ch.length := by simp [hpl]; omega
 have h60 := tmod60 k
 simp only [L23_1, J23_1, wq, reduceCtorEq, hlen, hw]
 refine ⟨fun hlt => ⟨fun h => ?_, fun _ => ?_⟩, fun hge => ?_⟩
 ·rw [wrap_u64 (by omega) (by omega)] at h; omega
 ·have hkl : k < ch.length := by omega
  obtain ⟨y, hy⟩ := get_of_lt hkl
  have hg : gI (partM mask ch k ++ ch.drop k) (k : Int) = some y := by
   rw [gI_nat, List.getElem?_append_right (by omega), hpl, List.getElem?_drop]; simpa using hy
  have hd : ch.drop k = y :: ch.drop (k + 1) := by
   rw [List.drop_eq_getElem_cons hkl]
   rw [List.getElem?_eq_getElem hkl] at hy
   rw [Option.some.inj hy]
  have hat : atI ch (k : Int) = y := by unfold atI; rw [Int.toNat_natCast, hy]; rfl
  have hs : partM mask ch (k + 1) = partM mask ch k ++ [if keepB mask k then y else -1] := by
   unfold partM; rw [List.range_succ, List.map_append]; simp only [List.map_cons, List.map_nil, hat]
  simp only [hg, wq, reduceCtorEq]
  refine ⟨fun e => ⟨⟨k + 1, by omega, ?_⟩, by omega⟩, fun e => ⟨⟨k + 1, by omega, ?_⟩, by omega⟩⟩
  ·have hkb : keepB mask k = false := by unfold keepB; rw [Bool.not_eq_false', beq_iff_eq]; exact e
   rw [hs, hkb, setI_nat, List.set_append_right _ _ (by omega), hpl, hd]; simp
  ·have hkb : keepB mask k = true := by unfold keepB; rw [Bool.not_eq_true', beq_eq_false_iff_ne]; exact e
   rw [hs, hkb, hd]; simp
 ·have : k = ch.length := by omega
  subst this
  rw [List.drop_length, List.append_nil]
theorem boundMatches_plain (l steps pairs which : List Int) (how at' mask : Int) (raw : List Int) (hl : ∀ x ∈ l, I64 x) : F5 l steps pairs which how at' mask raw = some true := by
 refine Ret.eq ?_
 simp only [F5, wq, reduceCtorEq]
 refine (F9_ok l pairs hl).mono fun s2 _ h2 => (F8_ok l steps hl how at').mono fun s1 _ h1 => ?_
 have hall : ∀ s ∈ ([s2, s1] : List SatT), SatH s ∧ s.1.length ≤ 900 := by
  intro s hs
  simp only [List.mem_cons, List.not_mem_nil, or_false] at hs
  rcases hs with rfl | rfl
  ·exact ⟨MerQ.satH h2, by have := h2.1.len; omega⟩
  ·exact ⟨h1.satH, by have := h1.n1; omega⟩
 refine ret_loop (fun q : Int × List SatT => ∃ k : Nat, k ≤ 2 ∧ q = ((k : Int), [s2, s1])) (fun q => 2 - q.1.toNat) ?_ _ ⟨0, by omega, rfl⟩
 rintro _ ⟨k, hk, rfl⟩
 have hw := wrap_succ k (by omega)
 simp only [L5_1, wq, reduceCtorEq]
 refine ⟨fun hlt => ret_gI (by omega) hlt fun s hs hm => ?_, fun hge => ⟨true, rfl, rfl⟩⟩
 obtain ⟨hsat, hn⟩ := hall s hm
 have hk3 : k < 2 := by simp at hlt; omega
 simp only [ret_eq hs]
 refine (F22_ok hsat hn which).mono fun ch _ hch => ?_
 have hcl := hch.len
 simp only [F23_eq ch _ (by omega), wq, reduceCtorEq]
 refine ret_loop (fun q : Int × List SatT × List (List Int) => ∃ i : Nat, i ≤ 5 ∧ q = ((i : Int), [s2, s1], [ch, partM mask ch ch.length, partM how ch ch.length, partM 0 ch ch.length, raw])) (fun q => 5 - q.1.toNat) ?_ _ ⟨0, by omega, rfl⟩
 rintro _ ⟨i, hi, rfl⟩
 have hw2 := wrap_succ i (by omega)
 simp only [L5_2, J5_1, wq, reduceCtorEq, hw, hw2]
 refine ⟨fun hlt2 => ret_gI (by omega) hlt2 fun c hc _ => ?_, fun hge2 => ⟨⟨k + 1, by omega, rfl⟩, by omega⟩⟩
 have hi5 : i < 5 := by simp at hlt2; omega
 obtain ⟨a, e1, e2, hal, _⟩ := lowerBound_agree hsat hn c
 simp only [ret_eq hc, e1, e2, wq, reduceCtorEq, F12_eq _ _ hal]
 exact ⟨⟨i + 1, by omega, rfl⟩, by omega⟩
theorem boundMatches_law (x0 x1 x2 x3 : List Int) (x4 x5 x6 : Int) (x7 : List Int) (_ : x0.length ≤ 9223372036854775807) (hw0 : ∀ x ∈ x0, I64 x) (_ : x1.length ≤ 9223372036854775807) (_ : ∀ x ∈ x1, I64 x) (_ : x2.length ≤ 9223372036854775807) (_ : ∀ x ∈ x2, I64 x) (_ : x3.length ≤ 9223372036854775807) (_ : ∀ x ∈ x3, I64 x) (_ : I64 x4) (_ : I64 x5) (_ : I64 x6) (_ : x7.length ≤ 9223372036854775807) (_ : ∀ x ∈ x7, I64 x) : F5 x0 x1 x2 x3 x4 x5 x6 x7 = some true :=
 boundMatches_plain x0 x1 x2 x3 x4 x5 x6 x7 hw0
end Go.Dat
