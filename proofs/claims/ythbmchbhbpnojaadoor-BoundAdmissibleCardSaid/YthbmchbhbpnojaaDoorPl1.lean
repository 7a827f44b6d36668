/-
 Deciding more classes does not lower the bound: BoundMonotone as a plain law.
-/
import Derived.Test.YthbmchbhbpnojaaDoorPl0
namespace Go.Dat
open Go.Eng
set_option linter.unusedSimpArgs false
set_option linter.unusedVariables false
set_option linter.unusedSectionVars false

theorem lowerBound_sel {s : SatT} (X : Ctx s) {ch : List Int} (hs : SelP s ch) : ∃ need, NeedOk s ch need ∧ F24 s ch = some (lbM s ch need).2 := by
 obtain ⟨r1, e1, need1, hN1, q1⟩ := analyze_need X hs (Q := fun r => ∃ need, NeedOk s ch need ∧ r = lbM s ch need) fun need hN => (L53_4_ok X hs hN).mono fun r _ hr => ⟨need, hN, hr⟩
 refine ⟨need1, hN1, ?_⟩
 have hsb : selB s ch = true := selB_iff.2 hs
 simp only [F24, F40_eq s X.h, validB_true X.v, cond_true, Option.bind_some, Bool.not_true, cond_false, F52_eq X, hsb]
 simp [J24_1, e1, q1]
theorem lowerBound_bad {s : SatT} (h : SatH s) (hn : s.1.length ≤ 900) {ch : List Int} (hb : ¬ (ValidP s ∧ SelP s ch)) : F24 s ch = some ([], 0, false) := by
 simp only [F24, F40_eq s h]
 cases hv : validB s
 ·simp [J24_1]
 ·have X : Ctx s := ⟨h, validB_iff.1 hv, hn⟩
  simp only [cond_true, Option.bind_some, Bool.not_true, cond_false, F52_eq X]
  cases hsb : selB s ch
  ·simp [J24_1]
  ·exact absurd ⟨X.v, selB_iff.1 hsb⟩ hb
def PartP (s : SatT) (a b : List Int) : Prop := ∀ j, inR s.1.length j → atI a j = -1 ∨ atI a j = atI b j
theorem SelP.part {s : SatT} {a b : List Int} (hb : SelP s b) (hl : a.length = b.length) (h : PartP s a b) : SelP s a := by
 refine ⟨by rw [hl]; exact hb.1, fun k hk => ?_⟩
 rcases h k hk with e | e
 ·exact .inl e
 ·rw [e]; exact hb.2 k hk
theorem ncM_op {x y : NodeT} (h : x.1 = y.1) : ncM x = ncM y := by
 obtain ⟨a, b, c⟩ := x
 obtain ⟨a', b', c'⟩ := y
 dsimp only at h
 subst h
 rfl
theorem lstM_le (s : SatT) (row : List Int) : ∀ k, k ≤ row.length → ∀ f ∈ row.take k, lstM s row k ≤ ncM (nodeAt s.1 f)
 | 0, _, f, hf => by simp at hf
 | k + 1, hk, f, hf => by
  have ih := lstM_le s row k (by omega)
  obtain ⟨y, hy⟩ := get_of_lt (l := row) (i := k) (by omega)
  have hat : atI row (k : Int) = y := by unfold atI; rw [Int.toNat_natCast, hy]; rfl
  rw [List.take_add_one, hy] at hf
  unfold lstM
  rw [hat]
  rcases List.mem_append.1 hf with hf | hf
  ·have := ih f hf
   have hb := (lstM_bd s row k).2.2
   split
   ·rename_i h
    rcases h with h | h
    ·have : 0 < k := by
      cases k with
      | zero => simp at hf
      | succ k => omega
     have := hb this; omega
    ·omega
   ·exact this
  ·rw [show f = y by simpa using hf]
   split <;> omega
noncomputable def costQ (s : SatT) (ch : List Int) (q : Int) : Int := if 0 ≤ decC s ch q then ncM (nodeAt s.1 (decC s ch q)) else lstM s (rowAt (candS s) q) (rowAt (candS s) q).length
noncomputable def sumQ (s : SatT) (ch : List Int) (need : List Bool) (l : List Int) : Int := (l.map fun q => if getB need q = true then costQ s ch q else 0).sum
section
variable {s : SatT} (X : Ctx s)
include X
theorem costQ_bd (ch : List Int) {q : Int} (hq : repP s q) : 0 ≤ costQ s ch q ∧ costQ s ch q ≤ 20 := by
 unfold costQ
 split
 ·exact (F76_eq _).2.2
 ·have hne := row_ne X hq
  have hb := lstM_bd s (rowAt (candS s) q) (rowAt (candS s) q).length
  have hpos : 0 < (rowAt (candS s) q).length := List.length_pos_iff.2 hne
  exact ⟨hb.2.2 hpos, hb.2.1⟩
theorem lbS_cost (ch : List Int) (need : List Bool) (a : List Int × List Int × Int) (q : Int) : (lbS s ch need a q).2.2 = if getB need q = true then IntKind.wrap .i64 (a.2.2 + costQ s ch q) else a.2.2 := by
 unfold lbS costQ
 split
 ·split <;> rfl
 ·rfl
theorem sumQ_bd (ch : List Int) (need : List Bool) : ∀ l : List Int, (∀ q ∈ l, repP s q) → 0 ≤ sumQ s ch need l ∧ sumQ s ch need l ≤ 20 * l.length
 | [], _ => by simp [sumQ]
 | q :: l, h => by
  have ih := sumQ_bd ch need l fun p hp => h p (List.mem_cons_of_mem _ hp)
  have hb := costQ_bd X ch (h q (by simp))
  unfold sumQ at ih ⊢
  simp only [List.map_cons, List.sum_cons, List.length_cons]
  split <;> omega
theorem sumQ_snoc (ch : List Int) (need : List Bool) (l : List Int) (q : Int) : sumQ s ch need (l ++ [q]) = sumQ s ch need l + (if getB need q = true then costQ s ch q else 0) := by
 simp [sumQ]
theorem lbF_cost (ch : List Int) (need : List Bool) (l : List Int) (hl : l.length ≤ 900) (h : ∀ q ∈ l, repP s q) : ∀ k ≤ l.length, (lbF s ch need (l.take k)).2.2 = sumQ s ch need (l.take k)
 | 0, _ => by simp [lbF, sumQ]
 | k + 1, hk => by
  have ih := lbF_cost ch need l hl h k (by omega)
  obtain ⟨q, hq⟩ := get_of_lt (l := l) (i := k) (by omega)
  have hqr := h q (List.mem_of_getElem? hq)
  have hb := costQ_bd X ch hqr
  have hs := sumQ_bd X ch need (l.take k) fun p hp => h p (List.mem_of_mem_take hp)
  have hlt : (l.take k).length ≤ 900 := by rw [List.length_take]; omega
  rw [List.take_add_one, hq]
  simp only [Option.toList_some]
  rw [lbF_snoc, lbS_cost X, ih, sumQ_snoc X]
  split
  ·rw [wrap_id (by omega) (by omega)]
  ·omega
theorem reps_rep {q : Int} (h : q ∈ repsM (clsS s) s.1.length) : repP s q := by
 unfold repsM at h
 rw [List.mem_filter] at h
 obtain ⟨h1, h2⟩ := h
 unfold idN at h1
 obtain ⟨i, hi, rfl⟩ := List.mem_map.1 h1
 have := List.mem_range.1 hi
 exact ⟨⟨by omega, by omega⟩, by simpa using h2⟩
theorem lbM_cost (ch : List Int) (need : List Bool) : (lbM s ch need).2.2.1 = sumQ s ch need (repsM (clsS s) s.1.length) := by
 have h := lbF_cost X ch need (repsM (clsS s) s.1.length) (by have := repsM_len (clsS s) s.1.length; have := X.n; omega) (fun q hq => reps_rep X hq) _ (Nat.le_refl _)
 rw [List.take_length] at h
 exact h
theorem dec_more {a b : List Int} (ha : SelP s a) (hb : SelP s b) (h : PartP s a b) {q : Int} (hq : inR s.1.length q) (hd : 0 ≤ decC s a q) : 0 ≤ decC s b q ∧ CongC s.1.length (clsS s) (nodeAt s.1 (decC s a q)) (nodeAt s.1 (decC s b q)) := by
 have hK := X.kids
 by_cases h0 : 0 ≤ atI a q
 ·have e : atI a q = atI b q := by rcases h q hq with e | e; omega; exact e
  have e1 : decC s a q = atI a q := by unfold decC; rw [if_pos h0]
  have e2 : decC s b q = atI a q := by unfold decC; rw [← e, if_pos h0]
  rw [e2, e1]
  exact ⟨h0, CongC.rfl' hK (nodeAt_mem (by rw [← e1]; exact (dec_rng X ha hq hd).1))⟩
 ·have e1 : decC s a q = if (rowAt (candS s) q).length = 1 then atI (rowAt (candS s) q) 0 else -1 := by unfold decC; rw [if_neg h0]
  by_cases h1 : (rowAt (candS s) q).length = 1
  ·rw [if_pos h1] at e1
   obtain ⟨f0, hf0⟩ := List.length_eq_one_iff.1 h1
   have e1' : decC s a q = f0 := by rw [e1, hf0]; rfl
   have hfr := (dec_rng X ha hq hd).1
   by_cases h2 : 0 ≤ atI b q
   ·have e2 : decC s b q = atI b q := by unfold decC; rw [if_pos h2]
    rcases hb.2 q hq with e3 | ⟨_, e4, e5⟩
    ·omega
    ·rw [e2]
     refine ⟨h2, ?_⟩
     obtain ⟨j', m, hc⟩ := X.cI.cov _ e4 e4.2
     rw [e5, hf0, List.mem_singleton] at m
     rw [e1', ← m]; exact hc
   ·have e2 : decC s b q = f0 := by unfold decC; rw [if_neg h2, if_pos h1, hf0]; rfl
    rw [e2, ← e1']
    exact ⟨hd, CongC.rfl' hK (nodeAt_mem hfr)⟩
  ·rw [if_neg h1] at e1; omega
theorem dec_new {b : List Int} (hb : SelP s b) {q : Int} (hq : inR s.1.length q) (hd : 0 ≤ decC s b q) : ∃ f ∈ rowAt (candS s) q, inR s.1.length f ∧ CongC s.1.length (clsS s) (nodeAt s.1 f) (nodeAt s.1 (decC s b q)) := by
 obtain ⟨h1, h2⟩ := dec_rng X hb hq hd
 obtain ⟨j', m, hc⟩ := X.cI.cov _ h1 h1.2
 rw [h2] at m
 exact ⟨j', m, (X.cI.mem q hq j' m).1, hc⟩
theorem kidsC_cong {f g : Int} (h : CongC s.1.length (clsS s) (nodeAt s.1 f) (nodeAt s.1 g)) : kidsC s f = kidsC s g := h.map
theorem req_more {a b : List Int} (ha : SelP s a) (hb : SelP s b) (h : PartP s a b) {q p : Int} (hq : inR s.1.length q) (hr : reqP s a q p) : reqP s b q p := by
 unfold reqP at hr ⊢
 by_cases hd : 0 ≤ decC s a q
 ·rw [if_pos hd] at hr
  obtain ⟨h1, h2⟩ := dec_more X ha hb h hq hd
  rw [if_pos h1, ← kidsC_cong X h2]; exact hr
 ·rw [if_neg hd] at hr
  by_cases hd2 : 0 ≤ decC s b q
  ·rw [if_pos hd2]
   obtain ⟨f, hf, _, hc⟩ := dec_new X hb hq hd2
   rw [← kidsC_cong X hc]; exact hr f hf
  ·rw [if_neg hd2]; exact hr
theorem reach_more {a b : List Int} (ha : SelP s a) (hb : SelP s b) (h : PartP s a b) {q : Int} (hr : Reach s a q) : Reach s b q := by
 induction hr with
 | val => exact .val
 | st => exact .st
 | step h1 h2 h3 ih => exact .step ih (req_more X ha hb h (Reach.rep X h1).1 h2) h3
theorem cost_more {a b : List Int} (ha : SelP s a) (hb : SelP s b) (h : PartP s a b) {q : Int} (hq : inR s.1.length q) : costQ s a q ≤ costQ s b q := by
 unfold costQ
 by_cases hd : 0 ≤ decC s a q
 ·obtain ⟨h1, h2⟩ := dec_more X ha hb h hq hd
  rw [if_pos hd, if_pos h1, ncM_op h2.op]; omega
 ·rw [if_neg hd]
  by_cases hd2 : 0 ≤ decC s b q
  ·rw [if_pos hd2]
   obtain ⟨f, hf, _, hc⟩ := dec_new X hb hq hd2
   rw [← ncM_op hc.op]
   exact lstM_le s _ _ (Nat.le_refl _) f (by rw [List.take_length]; exact hf)
  ·rw [if_neg hd2]; omega
end
theorem SelQ.satpart {s : SatT} {ch : List Int} (h : SelQ s ch) (hv : ValidP s) (mask : Int) : SelP s (partM mask ch ch.length) ∧ PartP s (partM mask ch ch.length) ch := by
 have hs := h.sel hv
 have hp : PartP s (partM mask ch ch.length) ch := fun j hj => by
  rw [partM_at mask ch (by rw [hs.1]; exact hj)]
  split
  ·exact .inr rfl
  ·exact .inl rfl
 exact ⟨hs.part (partM_len _ _ _) hp, hp⟩
end Go.Dat
/-
 The graph of a selection: the reference's depth first construction.
-/
namespace Go.Dat
open Go.Eng
set_option linter.unusedSimpArgs false
set_option linter.unusedVariables false
set_option linter.unusedSectionVars false

mutual
inductive Po (s:SatT) (ch:List Int):Int->List Int->List Int->Prop
 | seen {c:Int} {vs:List Int}:c∈vs->Po s ch c vs vs
 | new {c:Int} {vs ws:List Int}:c∉vs->0<=atI ch c->PoL s ch (kidsC s (atI ch c)) vs ws->c∉ws->Po s ch c vs (ws++[c])
inductive PoL (s:SatT) (ch:List Int):List Int->List Int->List Int->Prop
 | nil {vs:List Int}:PoL s ch [] vs vs
 | cons {p:Int} {ps vs us ws:List Int}:Po s ch p vs us->PoL s ch ps us ws->PoL s ch (p::ps) vs ws
end
theorem PoL.snoc {s:SatT} {ch:List Int}:∀ {ps vs us:List Int},PoL s ch ps vs us->∀ {p:Int} {ws:List Int},Po s ch p us ws->PoL s ch (ps++[p]) vs ws
 | [],_,_,.nil,_,_,h=>.cons h .nil
 | _::_,_,_,.cons h1 h2,_,_,h=>.cons h1 (h2.snoc h)
def EdS (s:SatT) (ch:List Int) (a b:Int):Prop:=0<=atI ch a/\b∈kidsC s (atI ch a)
inductive RS (s:SatT) (ch:List Int):Int->Prop
 | val:RS s ch (atI (clsS s) s.2.2.2.1)
 | st:RS s ch (atI (clsS s) s.2.2.2.2.1)
 | step {q p:Int}:RS s ch q->EdS s ch q p->RS s ch p
inductive PthS (s:SatT) (ch:List Int):Int->Int->Prop
 | refl {a:Int}:PthS s ch a a
 | snoc {a b c:Int}:PthS s ch a b->EdS s ch b c->PthS s ch a c
def BadS (s:SatT) (ch:List Int):Prop:=∃ q,RS s ch q/\(atI ch q < 0\/∃ p,EdS s ch q p/\PthS s ch p q)
theorem PthS.head {s:SatT} {ch:List Int} {a b:Int} (h:PthS s ch a b):a=b\/∃ c,EdS s ch a c/\PthS s ch c b:=by
 induction h with
 | refl=>exact .inl rfl
 | snoc _ e ih=>
  rcases ih with rfl | ⟨c,h1,h2⟩
  ·exact .inr ⟨_,e,.refl⟩
  ·exact .inr ⟨c,h1,h2.snoc e⟩
def posI (vs:List Int) (p:Int):Int:=((vs.idxOf p:Nat):Int)
theorem posI_app {vs es:List Int} {p:Int} (h:p∈vs):posI (vs++es) p=posI vs p:=by unfold posI;rw [List.idxOf_append,if_pos h]
theorem posI_snoc {vs:List Int} {p:Int} (h:p∉vs):posI (vs++[p]) p=vs.length:=by
 unfold posI;rw [List.idxOf_append,if_neg h];simp
theorem posI_lt {vs:List Int} {p:Int} (h:p∈vs):posI vs p < vs.length:=by unfold posI;have:=List.idxOf_lt_length_iff.2 h;omega
theorem posI_nn (vs:List Int) (p:Int):0<=posI vs p:=by unfold posI;omega
noncomputable def newN (s:SatT) (ch vs:List Int) (q:Int):NodeT:=((nodeAt s.1 (atI ch q)).1,(nodeAt s.1 (atI ch q)).2.1,(kidsC s (atI ch q)).map (posI vs))
noncomputable def parS (s:SatT) (ch:List Int) (m q:Int):Int:=if (nodeAt s.1 (atI ch q)).1=2/\m<=(nodeAt s.1 (atI ch q)).2.1 then IntKind.wrap .i64 ((nodeAt s.1 (atI ch q)).2.1+1) else m
noncomputable def parM (s:SatT) (ch vs:List Int):Int:=vs.foldl (parS s ch) 0
theorem parM_snoc (s:SatT) (ch vs:List Int) (c:Int):parM s ch (vs++[c])=parS s ch (parM s ch vs) c:=by unfold parM;rw [List.foldl_append];rfl
structure VsI (s:SatT) (ch vs:List Int):Prop where
 nd:vs.Nodup
 sel:∀ q∈vs,repP s q/\0<=atI ch q/\∀ p∈kidsC s (atI ch q),p∈vs/\posI vs p < posI vs q
structure BR (s:SatT) (ch:List Int) (At:List Int) (gn:List NodeT) (vs:List Int):Prop extends VsI s ch vs where
 len:At.length=s.1.length
 v:∀ q,inR s.1.length q->q∉vs->atI At q=-1\/atI At q=-2
 idx:∀ q∈vs,atI At q=posI vs q
 gn:gn=vs.map (newN s ch vs)
theorem VsI.snoc {s:SatT} {ch vs:List Int} (h:VsI s ch vs) {c:Int} (hc:repP s c) (hn:c∉vs) (hs:0<=atI ch c) (hk:∀ p∈kidsC s (atI ch c),p∈vs):VsI s ch (vs++[c]):=by
 refine ⟨?_,fun q hq=>?_⟩
 ·rw [List.nodup_append]
  exact ⟨h.nd,by simp,fun a ha b hb=>by rw [List.mem_singleton.1 hb];exact fun e=>hn (e▸ha)⟩
 ·rcases List.mem_append.1 hq with hq | hq
  ·obtain ⟨a,b,d⟩:=h.sel q hq
   exact ⟨a,b,fun p hp=>⟨List.mem_append_left _ (d p hp).1,by rw [posI_app (d p hp).1,posI_app hq];exact (d p hp).2⟩⟩
  ·rw [List.mem_singleton.1 hq]
   exact ⟨hc,hs,fun p hp=>⟨List.mem_append_left _ (hk p hp),by rw [posI_app (hk p hp),posI_snoc hn];exact posI_lt (hk p hp)⟩⟩
theorem newN_app {s:SatT} {ch vs es:List Int} {q:Int} (h:∀ p∈kidsC s (atI ch q),p∈vs):newN s ch (vs++es) q=newN s ch vs q:=by
 unfold newN
 rw [List.map_congr_left fun p hp=>posI_app (h p hp)]
theorem map_newN {s:SatT} {ch vs:List Int} (h:VsI s ch vs) (es:List Int):vs.map (newN s ch (vs++es))=vs.map (newN s ch vs):=
 List.map_congr_left fun q hq=>newN_app fun p hp=>((h.sel q hq).2.2 p hp).1
def cntM (l:List Int):Nat:=l.count (-1)
theorem cntM_set {l:List Int} {i x:Int} (hi:inR l.length i) (h:atI l i=-1) (hx:x≠-1):cntM (setI l i x)+1=cntM l:=by
 have h1:=hi.1
 have h2:i.toNat < l.length:=by have:=hi.2;omega
 have h3:l[i.toNat]=-1:=by
  unfold atI at h
  rw [List.getElem?_eq_getElem h2] at h;exact h
 unfold cntM setI
 rw [List.count_set h2,h3]
 have:0 < l.count (-1):=List.count_pos_iff.2 (by rw [<-h3];exact List.getElem_mem h2)
 simp [hx]
 omega
theorem cntM_set_le {l:List Int} {i x:Int} (hi:inR l.length i) (hx:x≠-1):cntM (setI l i x)<=cntM l:=by
 have h2:i.toNat < l.length:=by have:=hi.1;have:=hi.2;omega
 unfold cntM setI
 rw [List.count_set h2]
 simp [hx]
abbrev OutV:=Int×List NodeT×List StepT×List (Int×Int×Int)×Int×Int×Int×Int×List Int×List (List Int)×List Int×ByteArray×Int×Int×Int×Bool×List Int×List NodeT
noncomputable def outV (s:SatT) (ch:List Int) (nm:ByteArray) (gv gs r pr:Int) (bad:Bool) (At:List Int) (gn:List NodeT):OutV:=
 (r,s.1,s.2.1,s.2.2.1,s.2.2.2.1,s.2.2.2.2.1,s.2.2.2.2.2.1,s.2.2.2.2.2.2,clsS s,candS s,ch,nm,pr,gv,gs,bad,At,gn)
section
variable {s:SatT} (X:Ctx s) {ch:List Int} (hs:SelP s ch) (nm:ByteArray) (gv gs:Int)
def VisB (s:SatT) (ch:List Int) (nm:ByteArray) (gv gs:Int) (c:Int) (At:List Int) (gn:List NodeT) (vs:List Int) (o:OutV):Prop:=
 ∃ r pr bad At' gn',o=outV s ch nm gv gs r pr bad At' gn'/\At'.length=s.1.length/\gn'.length+cntM At'<=gn.length+cntM At/\(bad=true->BadS s ch) /\
  (bad=false->∃ es,Po s ch c vs (vs++es)/\c∈vs++es/\BR s ch At' gn' (vs++es)/\pr=parM s ch (vs++es)/\r=posI (vs++es) c/\(∀ q,inR s.1.length q->(atI At' q=-2↔atI At q=-2))/\cntM At'<=cntM At)
noncomputable abbrev visN (s:SatT) (ch:List Int) (nm:ByteArray) (gv gs:Int) (n:Nat) (c pr:Int) (bad:Bool) (At:List Int) (gn:List NodeT):Option OutV:=
 N98 n c s.1 s.2.1 s.2.2.1 s.2.2.2.1 s.2.2.2.2.1 s.2.2.2.2.2.1 s.2.2.2.2.2.2 (clsS s) (candS s) ch nm pr gv gs bad At gn
theorem visit_bad (n:Nat) (c pr:Int) (At:List Int) (gn:List NodeT):visN s ch nm gv gs (n+1) c pr true At gn=some (outV s ch nm gv gs 0 pr true At gn):=by
 refine Ret.eq ?_
 show Ret (G98 _ c s.1 s.2.1 s.2.2.1 s.2.2.2.1 s.2.2.2.2.1 s.2.2.2.2.2.1 s.2.2.2.2.2.2 (clsS s) (candS s) ch nm pr gv gs true At gn) _
 simp only [G98,J98_1,wq,reduceCtorEq,outV]
include X hs
theorem RS.rep {q:Int} (h:RS s ch q):repP s q:=by
 induction h with
 | val=>exact ⟨X.ci.rng X.v.va,X.ci.r2 _ X.v.va⟩
 | st=>exact ⟨X.ci.rng X.v.st,X.ci.r2 _ X.v.st⟩
 | step h1 e ih=>
  rcases hs.2 _ ih.1 with h | ⟨_,h,_⟩
  ·have:=e.1;omega
  ·exact kidsC_rep X h e.2
theorem sel_rng {q:Int} (hq:inR s.1.length q) (h:0<=atI ch q):inR s.1.length (atI ch q):=by
 rcases hs.2 q hq with e | ⟨_,e,_⟩
 ·omega
 ·exact e
theorem visitR_ok:∀ (n:Nat) (c:Int),RS s ch c->∀ (At:List Int) (gn:List NodeT) (vs:List Int),BR s ch At gn vs->(∀ q,inR s.1.length q->atI At q=-2->∃ b,PthS s ch q b/\EdS s ch b c)->cntM At < n->gn.length+cntM At<=900 ->
 Ret (visN s ch nm gv gs n c (parM s ch vs) false At gn) (VisB s ch nm gv gs c At gn vs)
 | 0,c,hc,At,gn,vs,hB,h1,hz,hg=>by omega
 | n+1,c,hc,At,gn,vs,hB,h1,hz,hg=>by
  have hrep:=RS.rep X hs hc
  have hal:inR At.length c:=by rw [hB.len];exact hrep.1
  have hga:gI At c=some (atI At c):=gI_inR hal
  have hgc:gI ch c=some (atI ch c):=gI_inR (by rw [hs.1];exact hrep.1)
  show Ret (G98 (N98 n) c s.1 s.2.1 s.2.2.1 s.2.2.2.1 s.2.2.2.2.1 s.2.2.2.2.2.1 s.2.2.2.2.2.2 (clsS s) (candS s) ch nm (parM s ch vs) gv gs false At gn) _
  simp only [G98,hga,hgc,wq,reduceCtorEq,J98_1]
  have bad:BadS s ch->VisB s ch nm gv gs c At gn vs (outV s ch nm gv gs 0 (parM s ch vs) true At gn):=fun h=>⟨0,_,true,At,gn,rfl,hB.len,Nat.le_refl _,fun _=>h,fun h=>by cases h⟩
  refine ⟨fun e=>?_,fun e2=>⟨fun e=>?_,fun e3=>⟨fun e=>?_,fun e4=>?_⟩⟩⟩
  ·obtain ⟨b,p1,p2⟩:=h1 c hrep.1 e
   refine bad ⟨c,hc,.inr ?_⟩
   rcases p1.head with rfl | ⟨d,h3,h4⟩
   ·exact ⟨_,p2,.refl⟩
   ·exact ⟨d,h3,h4.snoc p2⟩
  ·exact bad ⟨c,hc,.inl e⟩
  ·have hin:c∈vs:=by
    by_cases h:c∈vs
    ·exact h
    ·rcases hB.v c hrep.1 h with h | h<;>omega
   refine ⟨atI At c,_,false,At,gn,rfl,hB.len,Nat.le_refl _,(fun h=>by cases h),fun _=>⟨[],?_⟩⟩
   rw [List.append_nil]
   exact ⟨.seen hin,hin,hB,rfl,hB.idx c hin,fun _ _=>Iff.rfl,Nat.le_refl _⟩
  have hin:c∉vs:=fun h=>by have:=hB.idx c h;have:=posI_nn vs c;omega
  have em1:atI At c=-1:=by rcases hB.v c hrep.1 hin with h | h;exact h;exact absurd h e2
  have hdr:=sel_rng X hs hrep.1 e3
  have hkl:=X.kids.k _ (nodeAt_mem hdr)
  have hkr:=X.kids.r _ (nodeAt_mem hdr)
  simp only [nodeAt_get hdr,wq,reduceCtorEq]
  have hz1:=cntM_set hal em1 (x:=-2) (by omega)
  have B1:BR s ch (setI At c (-2)) gn vs:=by
   refine ⟨hB.toVsI,by rw [setI_len];exact hB.len,fun q hq hnq=>?_,fun q hq=>?_,hB.gn⟩
   ·rw [atI_set hal hq.1];split
    ·exact .inr rfl
    ·exact hB.v q hq hnq
   ·rw [atI_set hal ((hB.sel q hq).1.1).1,if_neg (fun e:q=c=>hin (e▸hq))];exact hB.idx q hq
  refine ret_loop (fun o=>∃ (j:Nat) (pr:Int) (bad:Bool) (kids At':List Int) (gn':List NodeT),o=((j:Int),s.1,s.2.1,s.2.2.1,s.2.2.2.1,s.2.2.2.2.1,s.2.2.2.2.2.1,s.2.2.2.2.2.2,clsS s,candS s,ch,nm,pr,gv,gs,bad,kids,At',gn')/\j<=(nodeAt s.1 (atI ch c)).2.2.length/\kids.length=j/\At'.length=s.1.length/\gn'.length+cntM At'<=gn.length+cntM (setI At c (-2))/\(bad=true->BadS s ch) /\
   (bad=false->∃ es,PoL s ch (kidsK s (atI ch c) j) vs (vs++es)/\(∀ p∈kidsK s (atI ch c) j,p∈vs++es)/\BR s ch At' gn' (vs++es)/\pr=parM s ch (vs++es)/\kids=(kidsK s (atI ch c) j).map (posI (vs++es))/\(∀ q,inR s.1.length q->(atI At' q=-2↔atI (setI At c (-2)) q=-2))/\cntM At'<=cntM (setI At c (-2)))) (fun o=>(nodeAt s.1 (atI ch c)).2.2.length - o.1.toNat) ?_ _ ⟨0,_,false,[],_,gn,rfl,by omega,rfl,by rw [setI_len];exact hB.len,Nat.le_refl _,(fun h=>by cases h),fun _=>⟨[],?_⟩⟩
  ·rintro _ ⟨j,pr,bad,kids,At',gn',rfl,hj,hkl',hl',hc',hbad,hok⟩
   have hw:=wrap_succ j (by omega)
   simp only [L98_1,wq,reduceCtorEq,hw]
   refine ⟨fun hlt=>ret_gI (by omega) hlt fun y hy hym=>?_,fun hge=>?_⟩
   ·have hyr:=hkr y hym
    rw [X.cget hyr]
    simp only [wq,reduceCtorEq]
    rw [gI_nat] at hy
    have hgk:=kidsC_get X hy
    have hpm:atI (clsS s) y∈kidsC s (atI ch c):=List.mem_of_getElem? hgk
    have hsn:kidsK s (atI ch c) (j+1)=kidsK s (atI ch c) j++[atI (clsS s) y]:=by unfold kidsK;rw [List.take_add_one,hgk];rfl
    cases bad with
    | true=>
     obtain ⟨n',rfl⟩:∃ n',n=n'+1:=⟨n - 1,by omega⟩
     have hv:=visit_bad (s:=s) (ch:=ch) nm gv gs n' (atI (clsS s) y) pr At' gn'
     rw [show N98 (n'+1) (atI (clsS s) y) s.1 s.2.1 s.2.2.1 s.2.2.2.1 s.2.2.2.2.1 s.2.2.2.2.2.1 s.2.2.2.2.2.2 (clsS s) (candS s) ch nm pr gv gs true At' gn'=_ from hv]
     simp only [wq,reduceCtorEq,outV]
     exact ⟨fun _=>⟨⟨j+1,pr,true,_,At',gn',rfl,by omega,by simp;omega,hl',hc',hbad,fun h=>by cases h⟩,by omega⟩,fun h=>absurd h (by simp only [List.length_cons,List.length_nil];omega)⟩
    | false=>
     obtain ⟨es,q1,q2,q3,rfl,rfl,q6,q7⟩:=hok rfl
     refine (visitR_ok n _ (.step hc ⟨e3,hpm⟩) At' gn' (vs++es) q3 (fun q hqr h=>?_) (by omega) (by omega)).mono fun o _ ⟨r,pr2,bad2,At2,gn2,eo,w1,w2,w3,w4⟩=>?_
     ·have hh:=(q6 q hqr).1 h
      rw [atI_set hal hqr.1] at hh
      split at hh
      ·subst ‹q=c›;exact ⟨q,.refl,e3,hpm⟩
      ·obtain ⟨b,p1,p2⟩:=h1 q hqr hh
       exact ⟨c,p1.snoc p2,e3,hpm⟩
     ·subst eo
      simp only [outV]
      refine ⟨fun _=>⟨⟨j+1,pr2,bad2,_,At2,gn2,rfl,by omega,by simp;unfold kidsK;rw [List.length_take,kidsC_len X];omega,w1,by omega,w3,fun h=>?_⟩,by omega⟩,fun h=>absurd h (by simp only [List.length_cons,List.length_nil];omega)⟩
      obtain ⟨es2,z1,z2,z3,z4,z5,z6,z7⟩:=w4 h
      refine ⟨es++es2,?_,fun p hp=>?_,?_,?_,?_,fun q hqr=>(z6 q hqr).trans (q6 q hqr),by omega⟩
      ·rw [hsn,<-List.append_assoc];exact q1.snoc z1
      ·rw [<-List.append_assoc]
       rw [hsn] at hp
       rcases List.mem_append.1 hp with hp | hp
       ·exact List.mem_append_left _ (q2 p hp)
       ·rw [List.mem_singleton.1 hp];exact z2
      ·rw [<-List.append_assoc];exact z3
      ·rw [<-List.append_assoc];exact z4
      ·rw [hsn,List.map_append,<-List.append_assoc,z5]
       congr 1
       exact List.map_congr_left fun p hp=>(posI_app (q2 p hp)).symm
   ·have hal':inR At'.length c:=by rw [hl'];exact hrep.1
    have hjl:j=(nodeAt s.1 (atI ch c)).2.2.length:=by omega
    have hall:kidsK s (atI ch c) j=kidsC s (atI ch c):=by unfold kidsK;rw [List.take_of_length_le (by rw [kidsC_len X];omega)]
    have hzl:=cntM_set_le hal' (x:=(gn'.length:Int)) (by omega)
    have hgs:gI (setI At' c (gn'.length:Int)) c=some (gn'.length:Int):=gI_set _ hal'.1 hal'.2
    simp only [gI_inR hal',J98_2,J98_3,hgs,wq,reduceCtorEq]
    refine ⟨fun _=>?_,fun h=>absurd h (by simp only [List.length_cons,List.length_nil];omega)⟩
    have fin:∀ pr',(bad=false->pr'=parS s ch pr c)->VisB s ch nm gv gs c At gn vs (outV s ch nm gv gs (gn'.length:Int) pr' bad (setI At' c (gn'.length:Int)) (gn'++[((nodeAt s.1 (atI ch c)).1,(nodeAt s.1 (atI ch c)).2.1,kids)])):=by
     intro pr' hpr'
     refine ⟨_,pr',bad,_,_,rfl,by rw [setI_len];exact hl',by simp;omega,hbad,fun h=>?_⟩
     obtain ⟨es,q1,q2,q3,e5,e6,q6,q7⟩:=hok h
     rw [hall] at q1 q2 e6
     have hcn:c∉vs++es:=fun hm=>by
      have h5:=q3.idx c hm
      have h6:=(q6 c hrep.1).2 (by rw [atI_set hal hrep.1.1,if_pos rfl])
      have:=posI_nn (vs++es) c
      omega
     have hlen:gn'.length=(vs++es).length:=by rw [q3.gn,List.length_map]
     have hV:=q3.toVsI.snoc hrep hcn e3 q2
     refine ⟨es++[c],?_,by simp,⟨by rw [<-List.append_assoc];exact hV,by rw [setI_len];exact hl',fun q hq hnq=>?_,fun q hq=>?_,?_⟩,?_,?_,fun q hq=>?_,by omega⟩
     ·rw [<-List.append_assoc];exact .new hin e3 q1 hcn
     ·rw [<-List.append_assoc,List.mem_append,List.mem_singleton] at hnq
      rw [atI_set hal' hq.1,if_neg (fun e=>hnq (.inr e))]
      exact q3.v q hq fun hm=>hnq (.inl hm)
     ·rw [<-List.append_assoc,List.mem_append,List.mem_singleton] at hq
      rw [<-List.append_assoc]
      rcases hq with hq | rfl
      ·rw [atI_set hal' ((q3.sel q hq).1.1).1,if_neg (fun e:q=c=>hcn (e▸hq)),posI_app hq];exact q3.idx q hq
      ·rw [atI_set hal' hrep.1.1,if_pos rfl,posI_snoc hcn,hlen]
     ·rw [<-List.append_assoc,List.map_append,map_newN q3.toVsI,<-q3.gn]
      congr 1
      simp only [List.map_cons,List.map_nil]
      rw [newN_app q2,newN,e6]
     ·rw [hpr' h,e5,<-List.append_assoc,parM_snoc]
     ·rw [<-List.append_assoc,posI_snoc hcn,hlen]
     ·rw [atI_set hal' hq.1]
      split
      ·subst ‹q=c›;constructor<;>intro h<;>omega
      ·rename_i hne
       rw [q6 q hq,atI_set hal hq.1,if_neg hne]
    refine ⟨fun e5=>⟨fun e6=>fin _ fun h=>?_,fun e6=>fin _ fun h=>?_⟩,fun e5=>fin _ fun h=>?_⟩
    ·rw [parS,if_pos ⟨e5,e6⟩]
    ·rw [parS,if_neg (fun h=>by omega)]
    ·rw [parS,if_neg (fun h=>e5 h.1)]
  ·rw [List.append_nil]
   exact ⟨.nil,fun p hp=>by simp [kidsK] at hp,B1,rfl,by simp [kidsK],fun _ _=>Iff.rfl,Nat.le_refl _⟩
end
end Go.Dat
/-
 Whether a graph is well formed: what it means; the reference's answer.
-/
namespace Go.Dat
open Go.Eng
set_option linter.unusedSimpArgs false
set_option linter.unusedVariables false
set_option linter.unusedSectionVars false

abbrev GrT:=ByteArray×Int×List NodeT×Int×Int
inductive Dp (l:List NodeT):Nat->Int->Prop
 | var {i:Nat} {x:NodeT}:l[i]?=some x->x.1=3->Dp l i (Int.tdiv x.2.1 16)
 | kid {i k q:Nat} {x:NodeT} {j:Int}:l[i]?=some x->x.2.2[k]?=some (q:Int)->Dp l q j->(x.1≠31\/j≠x.2.1\/k < x.2.2.length / 2)->Dp l i j
theorem Dp.inv {l:List NodeT} {i:Nat} {x:NodeT} {j:Int} (hx:l[i]?=some x) (h:Dp l i j):(x.1=3/\j=Int.tdiv x.2.1 16)\/∃ k q:Nat,x.2.2[k]?=some (q:Int)/\Dp l q j/\(x.1≠31\/j≠x.2.1\/k < x.2.2.length / 2):=by
 cases h with
 | var h1 h2=>rw [hx] at h1;obtain rfl:=Option.some.inj h1;exact .inl ⟨h2,rfl⟩
 | kid h1 h2 h3 h4=>rw [hx] at h1;obtain rfl:=Option.some.inj h1;exact .inr ⟨_,_,h2,h3,h4⟩
structure WfP (g:GrT):Prop where
 good:goodN g.2.2.1 g.2.2.1.length
 va:sortI (sortsN g.2.2.1 g.2.2.1.length) g.2.2.2.1=1
 st:sortI (sortsN g.2.2.1 g.2.2.1.length) g.2.2.2.2=2
 lp:∀ i k:Nat,k < i->∀ x y,g.2.2.1[i]?=some x->g.2.2.1[k]?=some y->x.1=31->y.1=31->y.2.1≠x.2.1
 lv:∀ x∈g.2.2.1,x.1=3->∀ y∈g.2.2.1,y.1=31->y.2.1=Int.tdiv x.2.1 16->Int.tmod x.2.1 16 < ((y.2.2.length / 2:Nat):Int)
 dp:∀ j:Int,0<=j->j < 16->¬ Dp g.2.2.1 g.2.2.2.1.toNat j/\¬ Dp g.2.2.1 g.2.2.2.2.toNat j
open Classical in
noncomputable def wfB (g:GrT):Bool:=decide (WfP g)
theorem wfB_true {g:GrT} (h:WfP g):true=wfB g:=by unfold wfB;simp [h]
theorem wfB_false {g:GrT} (h:¬ WfP g):false=wfB g:=by unfold wfB;simp [h]
theorem good_imm' {l:List NodeT} (hG:GraphH l) (hg:goodN l l.length) {i:Nat} {x:NodeT} (hx:l[i]?=some x):(x.1=2->0<=x.2.1/\x.2.1 < 6)/\(x.1=3->0<=x.2.1/\x.2.1 < 256)/\(x.1=31->0<=x.2.1/\x.2.1 < 16/\∃ m:Nat,x.2.2.length=2 * m+1/\1<=m/\m<=16):=by
 have hi:=lt_of_get hx
 have h1:=(hg i hi).1
 have h2:(sortsN l l.length)[i]?=some (sortAt l (sortsN l i) i x):=by
  rw [sortsN_get l i l.length hi]
  have hl:=sortsN_len l i
  show (sortsN l i++[match l[i]? with | some n=>sortAt l (sortsN l i) i n | none=>0])[i]?=_
  rw [List.getElem?_append_right (by omega),hl,hx];simp
 have h3:atI (sortsN l l.length) i=sortAt l (sortsN l i) i x:=by unfold atI;rw [Int.toNat_natCast,h2];rfl
 rw [h3] at h1
 have h4:okK (sortsN l i) i x=true:=by
  cases h:okK (sortsN l i) i x
  ·unfold sortAt at h1;rw [h] at h1;exact absurd rfl h1
  ·rfl
 have hT:TailH l x (kS (sortsN l i) x):=tailH_of hG hx (fun j a b hj ha hb=>sortsN_rng hG i j a b ha hb) (by rw [sortsN_len];exact Nat.le_refl _) h4
 have hns:nsM l x (kS (sortsN l i) x)≠0:=by unfold sortAt at h1;rw [h4] at h1;exact h1
 have he:=hT.ns
 generalize kS (sortsN l i) x=k at *
 have hk:=hT.hk
 have hl:=hT.hl
 have himm:immM x.1 x.2.1=true:=by
  cases hb:immM x.1 x.2.1
  ·have ht:J67_1 l x k true=some 0:=rfl
   have:F67 l x k=some 0:=by
    have h:Ret (F67 l x k) fun a=>a=0:=by
     simp only [F67,F59_eq,F88_eq,hb,ht,wq,reduceCtorEq]
     repeat' first | apply And.intro | intro _ | trivial
    exact h.eq
   rw [this] at he
   exact absurd (Option.some.inj he).symm hns
  ·rfl
 unfold immM at himm
 rw [decide_eq_true_eq] at himm
 refine ⟨fun e=>?_,fun e=>?_,fun e=>?_⟩
 ·rw [e] at himm
  simp at himm
  omega
 ·rw [e] at himm
  simp at himm
  omega
 ·rw [e] at himm
  simp at himm
  refine ⟨by omega,by omega,?_⟩
  obtain ⟨op,imm,ks⟩:=x
  dsimp only at e hk
  subst e
  by_cases c:k.length % 2=0\/k.length < 3\/33 < k.length
  ·have:=(tail_loop0 l imm ks k hk hl c).2
   rw [this] at he
   exact absurd (Option.some.inj he).symm hns
  ·exact ⟨k.length / 2,by dsimp only;omega,by omega,by omega⟩
theorem good_imm {l:List NodeT} (hG:GraphH l) (hg:goodN l l.length) {i:Nat} {x:NodeT} (hx:l[i]?=some x):(x.1=3->0<=x.2.1/\x.2.1 < 256)/\(x.1=31->0<=x.2.1/\x.2.1 < 16/\∃ m:Nat,x.2.2.length=2 * m+1/\1<=m/\m<=16):=(good_imm' hG hg hx).2
theorem F47_eq (l:List NodeT) (h:GraphH l) (i:Int):F47 l i=some (sortI (sortsN l l.length) i):=by
 refine Ret.eq ?_
 have hn:=h.n
 have hsl:=sortsN_len l l.length
 simp only [F47,J47_1,wq,reduceCtorEq]
 refine ⟨fun h=>?_,fun h0=>⟨fun h=>?_,fun h1=>?_⟩⟩
 ·unfold sortI;rw [if_neg (fun e=>by have:=e.1;omega)]
 ·unfold sortI;rw [if_neg (fun e=>by have:=e.2;omega)]
 ·have hw:IntKind.wrap .i64 (i+1)=i+1:=wrap_id (by omega) (by omega)
  obtain ⟨j,rfl⟩:∃ j:Nat,i=j:=⟨i.toNat,by omega⟩
  have hs:slI l 0 ((j:Int)+1)=l.take (j+1):=by
   unfold slI
   have e1:(((j:Int)+1).toNat - (0:Int).toNat)=j+1:=by omega
   simp only [e1,Int.toNat_zero,List.drop_zero]
   simp
  have hlt:(l.take (j+1)).length=j+1:=by rw [List.length_take];omega
  rw [hw,hs,F36_eq _ (h.take _),hlt,sortsN_take l (j+1) (j+1) (Nat.le_refl _)]
  simp only [wq,reduceCtorEq]
  have hg:gI (sortsN l (j+1)) (j:Int)=some (atI (sortsN l l.length) (j:Int)):=by
   rw [gI_nat,<-sortsN_get l j l.length (by omega),sortsN_some l l.length j (by omega)]
  refine ⟨fun _=>?_,fun h=>absurd h (by omega)⟩
  rw [hg,ret_some]
  unfold sortI;rw [if_pos ⟨by omega,by omega⟩]
theorem F48_ok {l:List NodeT} (h:GraphH l) (n:Int):Ret (F48 l n) fun r=>(r=0/\∀ y∈l,y.1=31->y.2.1≠n)\/∃ y∈l,y.1=31/\y.2.1=n/\r=((y.2.2.length / 2:Nat):Int):=by
 have hn:=h.n
 unfold F48
 refine ret_loop (fun i:Int=>∃ m:Nat,i=m/\m<=l.length/\∀ y∈l.take m,y.1=31->y.2.1≠n) (fun i=>l.length - i.toNat) ?_ _ ⟨0,rfl,by omega,fun y hy=>by simp at hy⟩
 rintro _ ⟨m,rfl,hm,ih⟩
 have hw:=wrap_succ m (by omega)
 simp only [L48_1,J48_1,wq,reduceCtorEq,hw]
 refine ⟨fun hlt=>ret_gI (by omega) hlt fun y hy hym=>?_,fun hge=>.inl fun y hy=>?_⟩
 ·have hkl:=h.k y hym
  have hd:Int.tdiv (y.2.2.length:Int) 2=((y.2.2.length / 2:Nat):Int):=by rw [Int.tdiv_eq_ediv_of_nonneg (by omega)];rfl
  simp only [ret_eq hy,hd]
  rw [gI_nat] at hy
  have next:(y.1=31->y.2.1≠n)->(∃ m':Nat,((m+1:Nat):Int)=m'/\m'<=l.length/\∀ y∈l.take m',y.1=31->y.2.1≠n):=fun hh=>by
   refine ⟨m+1,rfl,by omega,fun z hz=>?_⟩
   rw [List.take_add_one,hy] at hz
   rcases List.mem_append.1 hz with hz | hz
   ·exact ih z hz
   ·rw [show z=y by simpa using hz];exact hh
  refine ⟨fun e=>⟨fun e2=>.inr ⟨y,hym,e,e2,wrap_id (by omega) (by omega)⟩,fun e2=>⟨next fun _=>e2,by omega⟩⟩,fun e=>⟨next fun h=>absurd h e,by omega⟩⟩
 ·rw [List.take_of_length_le (by omega)] at ih
  exact ih y hy
structure DRow (l:List NodeT) (m:Nat) (out:List (List Bool)):Prop where
 len:out.length=m
 row:∀ (i:Nat) r,out[i]?=some r->r.length=16/\∀ j:Int,0<=j->j < 16->(getB r j=true↔Dp l i j)
def DpK (l:List NodeT) (x:NodeT) (k:Nat) (b:Int) (j:Int):Prop:=∃ t q:Nat,x.2.2[t]?=some (q:Int)/\Dp l q j/\(x.1≠31\/j≠x.2.1\/t < x.2.2.length / 2)/\(t < k\/t=k/\j < b)
theorem F49_ok {l:List NodeT} (hG:GraphH l) (hg:goodN l l.length):Ret (F49 l) (DRow l l.length):=by
 have hn:=hG.n
 unfold F49
 refine ret_loop (fun q:Int×List (List Bool)=>∃ m:Nat,q.1=m/\m<=l.length/\DRow l m q.2) (fun q=>l.length - q.1.toNat) ?_ _ ⟨0,rfl,by omega,rfl,fun i r h=>by simp at h⟩
 rintro ⟨_,out⟩ ⟨m,rfl,hm,hD⟩
 dsimp only at hD
 have hw:=wrap_succ m (by omega)
 have hD1:=hD.len
 simp only [L49_1,wq,reduceCtorEq]
 refine ⟨fun hlt=>⟨fun _=>?_,fun h=>absurd h (by omega)⟩,fun hge=>?_⟩
 ·have hml:m < l.length:=by omega
  refine ret_gI (by omega) hlt fun x hx hxm=>?_
  rw [gI_nat] at hx
  have hkb:=kids_before hg hx
  have hkl:=hG.k x hxm
  have hd:Int.tdiv (x.2.2.length:Int) 2=((x.2.2.length / 2:Nat):Int):=by rw [Int.tdiv_eq_ediv_of_nonneg (by omega)];rfl
  have hd2:IntKind.wrap .i64 ((x.2.2.length / 2:Nat):Int)=((x.2.2.length / 2:Nat):Int):=wrap_id (by omega) (by omega)
  refine ret_loop (fun q:Int×List (List Bool)×List Bool=>∃ k:Nat,q.1=k/\k<=x.2.2.length/\q.2.1=out/\q.2.2.length=16/\∀ j:Int,0<=j->j < 16->(getB q.2.2 j=true↔DpK l x k 0 j)) (fun q=>x.2.2.length - q.1.toNat) ?_ _ ⟨0,rfl,by omega,rfl,by simp,fun j h0 h1=>by
   rw [getB_rep]
   refine ⟨fun h=>by (cases h),?_⟩
   rintro ⟨t,q,_,_,_,h | h⟩
   ·omega
   ·omega⟩
  rintro ⟨_,out2,h⟩ ⟨k,rfl,hk,eo,hl16,hH⟩
  dsimp only at hl16 hH eo
  subst out2
  have hw2:=wrap_succ k (by omega)
  simp only [L49_2,J49_3,wq,reduceCtorEq]
  refine ⟨fun hlt2=>?_,fun hge2=>?_⟩
  ·refine ret_loop (fun q:Int×List (List Bool)×List Bool=>∃ b:Nat,q.1=b/\b<=16/\q.2.1=out/\q.2.2.length=16/\∀ j:Int,0<=j->j < 16->(getB q.2.2 j=true↔DpK l x k b j)) (fun q=>16 - q.1.toNat) ?_ _ ⟨0,rfl,by omega,rfl,hl16,hH⟩
   rintro ⟨_,out2,h⟩ ⟨b,rfl,hb,eo,hl16,hH⟩
   dsimp only at hl16 hH eo
   subst out2
   have hw3:=wrap_succ b (by omega)
   simp only [L49_3,J49_1,J49_2,wq,reduceCtorEq,hw2,hw3,hd,hd2]
   refine ⟨fun hlt3=>ret_gI (by omega) hlt2 fun y hy hym=>?_,fun hge3=>⟨⟨k+1,rfl,by omega,hl16,fun j h0 h1=>(hH j h0 h1).trans ?_⟩,by omega⟩⟩
   ·obtain ⟨q,rfl⟩:∃ q:Nat,y=q:=⟨y.toNat,by have:=(hkb y hym).1;omega⟩
    have hqm:q < m:=by have:=(hkb _ hym).2;omega
    refine ret_gI (by omega) (by omega) fun r hr hrm=>?_
    simp only [ret_eq hr]
    rw [gI_nat] at hy hr
    obtain ⟨r16,hrj⟩:=hD.row q r hr
    have hbr:inR r.length (b:Int):=⟨by omega,by omega⟩
    have hbh:inR h.length (b:Int):=⟨by omega,by omega⟩
    have hrb:=hrj b (by omega) (by omega)
    rw [gI_getB hbr]
    have keep:(Dp l q b->¬ (x.1≠31\/(b:Int)≠x.2.1\/k < x.2.2.length / 2))->∃ b':Nat,((b+1:Nat):Int)=b'/\b'<=16/\h.length=16/\∀ j:Int,0<=j->j < 16->(getB h j=true↔DpK l x k b' j):=fun hno=>by
     refine ⟨b+1,rfl,by omega,hl16,fun j h0 h1=>(hH j h0 h1).trans ⟨?_,?_⟩⟩
     ·rintro ⟨t,q',e1,e2,e3,e4⟩
      exact ⟨t,q',e1,e2,e3,by omega⟩
     ·rintro ⟨t,q',e1,e2,e3,e4⟩
      refine ⟨t,q',e1,e2,e3,?_⟩
      by_cases e5:t=k/\j=b
      ·obtain ⟨rfl,rfl⟩:=e5
       rw [hy] at e1
       have:q=q':=by have:=Option.some.inj e1;omega
       subst this
       exact absurd e3 (hno e2)
      ·omega
    have set:Dp l q b->(x.1≠31\/(b:Int)≠x.2.1\/k < x.2.2.length / 2)->∃ b':Nat,((b+1:Nat):Int)=b'/\b'<=16/\(setI h (b:Int) true).length=16/\∀ j:Int,0<=j->j < 16->(getB (setI h (b:Int) true) j=true↔DpK l x k b' j):=fun h1 h2=>by
     refine ⟨b+1,rfl,by omega,by rw [setI_len];exact hl16,fun j h0 h1'=>?_⟩
     rw [getB_set hbh h0]
     split
     ·subst ‹j=_›
      exact ⟨fun _=>⟨k,q,hy,h1,h2,.inr ⟨rfl,by omega⟩⟩,fun _=>rfl⟩
     ·refine (hH j h0 h1').trans ⟨?_,?_⟩
      ·rintro ⟨t,q',e1,e2,e3,e4⟩
       exact ⟨t,q',e1,e2,e3,by omega⟩
      ·rintro ⟨t,q',e1,e2,e3,e4⟩
       exact ⟨t,q',e1,e2,e3,by omega⟩
    simp only [wq,reduceCtorEq,gI_getB hbh]
    refine ⟨fun e1=>⟨fun e2=>⟨set (hrb.1 e1) (.inl e2),by omega⟩,fun e2=>⟨fun e3=>⟨set (hrb.1 e1) (.inr (.inl e3)),by omega⟩,fun e3=>⟨fun e4=>⟨set (hrb.1 e1) (.inr (.inr (by omega))),by omega⟩,fun e4=>⟨keep fun _=>by omega,by omega⟩⟩⟩⟩,fun e1=>⟨keep fun e=>(by rw [hrb.2 e] at e1;cases e1),by omega⟩⟩
   ·have:b=16:=by omega
    subst this
    constructor
    ·rintro ⟨t,q',e1,e2,e3,e4⟩
     exact ⟨t,q',e1,e2,e3,by omega⟩
    ·rintro ⟨t,q',e1,e2,e3,e4⟩
     exact ⟨t,q',e1,e2,e3,by omega⟩
  ·have hkk:k=x.2.2.length:=by omega
   have hlast:∀ h':List Bool,h'.length=16->(∀ j:Int,0<=j->j < 16->(getB h' j=true↔Dp l m j))->(out.length+([h']:List (List Bool)).length<=1000000->(∃ m':Nat,IntKind.wrap .i64 ((m:Int)+1)=m'/\m'<=l.length/\DRow l m' (out++[h']))/\l.length - (IntKind.wrap .i64 ((m:Int)+1)).toNat < l.length - ((m:Int)).toNat):=fun h' hl' hj' _=>by
    rw [hw]
    refine ⟨⟨m+1,rfl,by omega,by simp;omega,fun i r hr=>?_⟩,by omega⟩
    by_cases e:i < m
    ·rw [List.getElem?_append_left (by omega)] at hr;exact hD.row i r hr
    ·have:i=m:=by have:=lt_of_get hr;simp at this;omega
     subst this
     rw [List.getElem?_append_right (by omega),hD1] at hr
     simp at hr
     rw [<-hr];exact ⟨hl',hj'⟩
   have hdp:∀ j,DpK l x k 0 j↔∃ t q:Nat,x.2.2[t]?=some (q:Int)/\Dp l q j/\(x.1≠31\/j≠x.2.1\/t < x.2.2.length / 2):=fun j=>by
    constructor
    ·rintro ⟨t,q,e1,e2,e3,_⟩;exact ⟨t,q,e1,e2,e3⟩
    ·rintro ⟨t,q,e1,e2,e3⟩;exact ⟨t,q,e1,e2,e3,.inl (by have:=lt_of_get e1;omega)⟩
   refine ⟨fun e=>?_,fun e=>⟨fun hh=>hlast _ hl16 (fun j h0 h1=>?_) hh,fun h=>absurd h (by simp only [List.length_cons,List.length_nil];omega)⟩⟩
   ·obtain ⟨i0,i1⟩:=(good_imm hG hg hx).1 e
    have hq:Int.tdiv x.2.1 16=((x.2.1.toNat / 16:Nat):Int):=by
     obtain ⟨a,ha⟩:∃ a:Nat,x.2.1=a:=⟨x.2.1.toNat,by omega⟩
     rw [ha,Int.tdiv_eq_ediv_of_nonneg (by omega)];rfl
    have hqb:x.2.1.toNat / 16 < 16:=by omega
    have hwq:IntKind.wrap .i64 (Int.tdiv x.2.1 16)=Int.tdiv x.2.1 16:=by rw [hq];exact wrap_id (by omega) (by omega)
    have hbh:inR h.length (Int.tdiv x.2.1 16):=by rw [hl16,hq];exact ⟨by omega,by omega⟩
    simp only [hwq,gI_getB hbh,wq,reduceCtorEq]
    refine ⟨fun hh=>hlast _ (by rw [setI_len];exact hl16) (fun j h0 h1=>?_) hh,fun h=>absurd h (by simp only [List.length_cons,List.length_nil];omega)⟩
    rw [getB_set hbh h0]
    split
    ·subst ‹j=_›
     exact ⟨fun _=>.var hx e,fun _=>rfl⟩
    ·rename_i hne
     rw [hH j h0 h1,hdp]
     constructor
     ·rintro ⟨t,q,e1,e2,e3⟩;exact .kid hx e1 e2 e3
     ·intro hd
      rcases hd.inv hx with ⟨_,h⟩ | h
      ·exact absurd h hne
      ·exact h
   ·rw [hH j h0 h1,hdp]
    constructor
    ·rintro ⟨t,q,e1,e2,e3⟩;exact .kid hx e1 e2 e3
    ·intro hd
     rcases hd.inv hx with ⟨h,_⟩ | h
     ·exact absurd h e
     ·exact h
 ·have:m=l.length:=by omega
  subst this
  exact hD
theorem sortI_rng {l:List Int} {i:Int} (h:sortI l i≠0):inR l.length i:=by
 unfold sortI at h
 split at h
 ·assumption
 ·exact absurd rfl h
theorem F20_eq (g:GrT) (hG:GraphH g.2.2.1):F20 g=some (wfB g):=by
 refine Ret.eq ?_
 have hn:=hG.n
 have hsl:=sortsN_len g.2.2.1 g.2.2.1.length
 simp only [F20,F38_eq _ hG,F47_eq _ hG,J20_1,wq,reduceCtorEq]
 refine ⟨fun e=>wfB_false fun w=>by (rw [goodB_true w.good] at e;cases e),fun e=>⟨fun e1=>wfB_false fun w=>e1 w.va,fun e1=>⟨fun e2=>wfB_false fun w=>e2 w.st,fun e2=>?_⟩⟩⟩
 have hg:goodN g.2.2.1 g.2.2.1.length:=by unfold goodB at e;simpa using e
 have rv:inR g.2.2.1.length g.2.2.2.1:=by have:=sortI_rng (l:=sortsN g.2.2.1 g.2.2.1.length) (i:=g.2.2.2.1) (by omega);rwa [hsl] at this
 have rs:inR g.2.2.1.length g.2.2.2.2:=by have:=sortI_rng (l:=sortsN g.2.2.1 g.2.2.1.length) (i:=g.2.2.2.2) (by omega);rwa [hsl] at this
 refine ret_loop (fun i:Int=>∃ m:Nat,i=m/\m<=g.2.2.1.length/\(∀ i k:Nat,i < m->k < i->∀ x y,g.2.2.1[i]?=some x->g.2.2.1[k]?=some y->x.1=31->y.1=31->y.2.1≠x.2.1)/\(∀ x∈g.2.2.1.take m,x.1=3->(∀ y∈g.2.2.1,y.1=31->y.2.1≠Int.tdiv x.2.1 16)\/∃ y∈g.2.2.1,y.1=31/\y.2.1=Int.tdiv x.2.1 16/\Int.tmod x.2.1 16 < ((y.2.2.length / 2:Nat):Int))) (fun i=>g.2.2.1.length - i.toNat) ?_ _ ⟨0,rfl,by omega,(fun i k h=>by omega),fun x hx=>by simp at hx⟩
 rintro _ ⟨m,rfl,hm,hlp,hlv⟩
 have hw:=wrap_succ m (by omega)
 simp only [L20_1,J20_2,wq,reduceCtorEq,hw]
 refine ⟨fun hlt=>ret_gI (by omega) hlt fun x hx hxm=>?_,fun hge=>?_⟩
 ·rw [gI_nat] at hx
  refine ret_loop (fun k:Int=>∃ j:Nat,k=j/\j<=m/\(x.1=31->∀ p < j,∀ y,g.2.2.1[p]?=some y->y.1=31->y.2.1≠x.2.1)) (fun k=>m - k.toNat) ?_ _ ⟨0,rfl,by omega,fun _ p hp=>by omega⟩
  rintro _ ⟨j,rfl,hj,hd⟩
  have hw2:=wrap_succ j (by omega)
  have fin:(x.1=31->∀ p < m,∀ y,g.2.2.1[p]?=some y->y.1=31->y.2.1≠x.2.1)->(x.1=3->(∀ y∈g.2.2.1,y.1=31->y.2.1≠Int.tdiv x.2.1 16)\/∃ y∈g.2.2.1,y.1=31/\y.2.1=Int.tdiv x.2.1 16/\Int.tmod x.2.1 16 < ((y.2.2.length / 2:Nat):Int))->∃ m':Nat,((m+1:Nat):Int)=m'/\m'<=g.2.2.1.length/\(∀ i k:Nat,i < m'->k < i->∀ x y,g.2.2.1[i]?=some x->g.2.2.1[k]?=some y->x.1=31->y.1=31->y.2.1≠x.2.1)/\(∀ x∈g.2.2.1.take m',x.1=3->(∀ y∈g.2.2.1,y.1=31->y.2.1≠Int.tdiv x.2.1 16)\/∃ y∈g.2.2.1,y.1=31/\y.2.1=Int.tdiv x.2.1 16/\Int.tmod x.2.1 16 < ((y.2.2.length / 2:Nat):Int)):=fun h1 h2=>by
   refine ⟨m+1,rfl,by omega,fun i k hi hk x' y' hx' hy'=>?_,fun x' hx'=>?_⟩
   ·by_cases e:i < m
    ·exact hlp i k e hk x' y' hx' hy'
    ·have:i=m:=by omega
     subst this
     rw [hx] at hx';obtain rfl:=Option.some.inj hx'
     exact fun e1 e2=>h1 e1 k hk y' hy' e2
   ·rw [List.take_add_one,hx] at hx'
    rcases List.mem_append.1 hx' with hx' | hx'
    ·exact hlv x' hx'
    ·rw [show x'=x by simpa using hx'];exact h2
  simp only [L20_2,J20_2,J20_3,J20_4,J20_5,wq,reduceCtorEq,hw,hw2]
  -- behind the loops before it
  have tail:(x.1=31->∀ p < m,∀ y,g.2.2.1[p]?=some y->y.1=31->y.2.1≠x.2.1)->x.1=3->Ret (F48 g.2.2.1 (IntKind.wrap .i64 (Int.tdiv x.2.1 16))) fun a=>(0 < a->(a<=Int.tmod x.2.1 16->false=wfB g)/\(Int.tmod x.2.1 16 < a->(∃ m':Nat,((m+1:Nat):Int)=m'/\m'<=g.2.2.1.length/\(∀ i k:Nat,i < m'->k < i->∀ x y,g.2.2.1[i]?=some x->g.2.2.1[k]?=some y->x.1=31->y.1=31->y.2.1≠x.2.1)/\(∀ x∈g.2.2.1.take m',x.1=3->(∀ y∈g.2.2.1,y.1=31->y.2.1≠Int.tdiv x.2.1 16)\/∃ y∈g.2.2.1,y.1=31/\y.2.1=Int.tdiv x.2.1 16/\Int.tmod x.2.1 16 < ((y.2.2.length / 2:Nat):Int)))/\g.2.2.1.length - ((m+1:Nat):Int).toNat < g.2.2.1.length - ((m:Int)).toNat))/\(a<=0->(∃ m':Nat,((m+1:Nat):Int)=m'/\m'<=g.2.2.1.length/\(∀ i k:Nat,i < m'->k < i->∀ x y,g.2.2.1[i]?=some x->g.2.2.1[k]?=some y->x.1=31->y.1=31->y.2.1≠x.2.1)/\(∀ x∈g.2.2.1.take m',x.1=3->(∀ y∈g.2.2.1,y.1=31->y.2.1≠Int.tdiv x.2.1 16)\/∃ y∈g.2.2.1,y.1=31/\y.2.1=Int.tdiv x.2.1 16/\Int.tmod x.2.1 16 < ((y.2.2.length / 2:Nat):Int)))/\g.2.2.1.length - ((m+1:Nat):Int).toNat < g.2.2.1.length - ((m:Int)).toNat):=fun hall e3=>by
   obtain ⟨i0,i1⟩:=(good_imm hG hg hx).1 e3
   have hq:Int.tdiv x.2.1 16=((x.2.1.toNat / 16:Nat):Int):=by
    obtain ⟨a,ha⟩:∃ a:Nat,x.2.1=a:=⟨x.2.1.toNat,by omega⟩
    rw [ha,Int.tdiv_eq_ediv_of_nonneg (by omega)];rfl
   have hwq:IntKind.wrap .i64 (Int.tdiv x.2.1 16)=Int.tdiv x.2.1 16:=by rw [hq];exact wrap_id (by omega) (by omega)
   rw [hwq]
   refine (F48_ok hG _).mono fun a _ ha=>⟨fun h0=>⟨fun h1=>?_,fun h1=>⟨fin hall fun _=>?_,by omega⟩⟩,fun h0=>⟨fin hall fun _=>?_,by omega⟩⟩
   ·rcases ha with ⟨rfl,_⟩ | ⟨y,hy,y1,y2,rfl⟩
    ·omega
    ·exact wfB_false fun w=>by have:=w.lv x hxm e3 y hy y1 y2;omega
   ·rcases ha with ⟨rfl,_⟩ | ⟨y,hy,y1,y2,rfl⟩
    ·omega
    ·exact .inr ⟨y,hy,y1,y2,h1⟩
   ·rcases ha with ⟨rfl,hno⟩ | ⟨y,hy,y1,y2,rfl⟩
    ·exact .inl hno
    ·obtain ⟨j,hj⟩:=List.getElem?_of_mem hy
     obtain ⟨_,_,mm,h3,h4,h5⟩:=(good_imm hG hg hj).2 y1
     omega
  refine ⟨fun hlt2=>⟨fun e31=>ret_gI (by omega) (by omega) fun y hy hym=>?_,fun e31=>⟨fun e3=>tail (fun h=>absurd h e31) e3,fun e3=>⟨fin (fun h=>absurd h e31) fun h=>absurd h e3,by omega⟩⟩⟩,fun hge2=>⟨fun e3=>tail (fun h=>by omega) e3,fun e3=>⟨fin (fun h=>?_) fun h=>absurd h e3,by omega⟩⟩⟩
  ·simp only [ret_eq hy,wq,reduceCtorEq]
   rw [gI_nat] at hy
   have nx:(y.1=31->y.2.1≠x.2.1)->∃ j':Nat,((j+1:Nat):Int)=j'/\j'<=m/\(x.1=31->∀ p < j',∀ y,g.2.2.1[p]?=some y->y.1=31->y.2.1≠x.2.1):=fun hh=>by
    refine ⟨j+1,rfl,by omega,fun h p hp z hz=>?_⟩
    by_cases e:p < j
    ·exact hd h p e z hz
    ·have:p=j:=by omega
     subst this
     rw [hy] at hz;obtain rfl:=Option.some.inj hz;exact hh
   refine ⟨fun y31=>⟨fun e=>wfB_false fun w=>w.lp m j (by omega) x y hx hy e31 y31 e,fun e=>⟨nx fun _=>e,by omega⟩⟩,fun y31=>⟨nx fun h=>absurd h y31,by omega⟩⟩
  ·have:j=m:=by omega
   subst this
   exact hd h
 ·have hlv':∀ x∈g.2.2.1,x.1=3->∀ y∈g.2.2.1,y.1=31->y.2.1=Int.tdiv x.2.1 16->Int.tmod x.2.1 16 < ((y.2.2.length / 2:Nat):Int):=by
   rw [List.take_of_length_le (by omega)] at hlv
   intro x hx e3 y hy e31 e
   rcases hlv x hx e3 with h | ⟨z,hz,z1,z2,z3⟩
   ·exact absurd e (h y hy e31)
   ·obtain ⟨a,ha⟩:=List.getElem?_of_mem hy
    obtain ⟨b,hb⟩:=List.getElem?_of_mem hz
    have hab:a=b:=by
     rcases Nat.lt_trichotomy a b with h | h | h
     ·exact absurd (by rw [e,z2]) (hlp b a (by have:=lt_of_get hb;omega) h z y hb ha z1 e31)
     ·exact h
     ·exact absurd (by rw [e,z2]) (hlp a b (by have:=lt_of_get ha;omega) h y z ha hb e31 z1)
    subst hab
    rw [ha] at hb
    obtain rfl:=Option.some.inj hb
    exact z3
  have hlp':∀ i k:Nat,k < i->∀ x y,g.2.2.1[i]?=some x->g.2.2.1[k]?=some y->x.1=31->y.1=31->y.2.1≠x.2.1:=fun i k hk x y hx hy=>hlp i k (by have:=lt_of_get hx;omega) hk x y hx hy
  refine (F49_ok hG hg).mono fun out _ hD=>?_
  have hol:=hD.len
  refine ret_loop (fun j:Int=>∃ b:Nat,j=b/\b<=16/\∀ j:Int,0<=j->j < b->¬ Dp g.2.2.1 g.2.2.2.1.toNat j/\¬ Dp g.2.2.1 g.2.2.2.2.toNat j) (fun j=>16 - j.toNat) ?_ _ ⟨0,rfl,by omega,fun j h0 h1=>by omega⟩
  rintro _ ⟨b,rfl,hb,hN⟩
  have hw2:=wrap_succ b (by omega)
  simp only [L20_3,J20_6,wq,reduceCtorEq,hw2]
  refine ⟨fun hlt=>ret_gI rv.1 (by have:=rv.2;omega) fun r hr _=>?_,fun hge=>wfB_true ⟨hg,e1,e2,hlp',hlv',fun j h0 h1=>hN j h0 (by omega)⟩⟩
  have hr':=(gI_some hr).2.2
  obtain ⟨r16,hrj⟩:=hD.row _ _ hr'
  have hrb:inR r.length (b:Int):=⟨by omega,by omega⟩
  rw [gI_getB hrb]
  simp only [wq,reduceCtorEq]
  have hb1:=hrj b (by omega) (by omega)
  refine ⟨fun e=>wfB_false fun w=>(w.dp b (by omega) (by omega)).1 (hb1.1 e),fun e=>ret_gI rs.1 (by have:=rs.2;omega) fun r2 hr2 _=>?_⟩
  have hr2':=(gI_some hr2).2.2
  obtain ⟨r16',hrj'⟩:=hD.row _ _ hr2'
  have hrb':inR r2.length (b:Int):=⟨by omega,by omega⟩
  rw [gI_getB hrb']
  simp only [wq,reduceCtorEq]
  have hb2:=hrj' b (by omega) (by omega)
  refine ⟨fun e4=>wfB_false fun w=>(w.dp b (by omega) (by omega)).2 (hb2.1 e4),fun e4=>⟨⟨b+1,rfl,by omega,fun j h0 h1=>?_⟩,by omega⟩⟩
  by_cases h:j < b
  ·exact hN j h0 h
  ·obtain rfl:j=b:=by omega
   exact ⟨fun d=>(by rw [hb1.2 d] at e;cases e),fun d=>(by rw [hb2.2 d] at e4;cases e4)⟩
end Go.Dat
/-
 The graph of a selection and its cost: the reference. BoundAdmissible as a plain law.
-/
namespace Go.Dat
open Go.Eng
set_option linter.unusedSimpArgs false
set_option linter.unusedVariables false
set_option linter.unusedSectionVars false

structure PoR (s:SatT) (ch vs:List Int):Prop extends VsI s ch vs where
 po:PoL s ch [atI (clsS s) s.2.2.2.1,atI (clsS s) s.2.2.2.2.1] [] vs
 va:atI (clsS s) s.2.2.2.1∈vs
 st:atI (clsS s) s.2.2.2.2.1∈vs
 len:vs.length<=s.1.length
noncomputable def grS (s:SatT) (ch vs:List Int):GrT:=(ByteArray.empty,parM s ch vs,vs.map (newN s ch vs),posI vs (atI (clsS s) s.2.2.2.1),posI vs (atI (clsS s) s.2.2.2.2.1))
def noG:GrT:=(ByteArray.empty,0,[],0,0)
def BldQ (s:SatT) (ch:List Int) (r:GrT×Bool):Prop:=(BadS s ch/\r=(noG,false))\/∃ vs,PoR s ch vs/\r=bif wfB (grS s ch vs) then (grS s ch vs,true) else (noG,false)
theorem atI_repl (n:Nat) (x:Int) {q:Int} (h:inR n q):atI (List.replicate n x) q=x:=by
 have h1:=h.1;have h2:=h.2
 unfold atI
 rw [List.getElem?_replicate,if_pos (by omega)];rfl
section
variable {s:SatT} (X:Ctx s) {ch:List Int} (hs:SelP s ch)
include X hs
theorem grS_G {vs:List Int} (h:PoR s ch vs):GraphW (grS s ch vs).2.2.1:=by
 have hn:=X.n
 have hl:=h.len
 refine ⟨⟨by simp [grS];omega,fun x hx=>?_⟩,fun x hx=>?_⟩
 ·obtain ⟨q,hq,rfl⟩:=List.mem_map.1 hx
  obtain ⟨a,b,_⟩:=h.sel q hq
  have:=X.kids.k _ (nodeAt_mem (sel_rng X hs a.1 b))
  simp only [newN,List.length_map]
  rw [kidsC_len X];exact this
 ·obtain ⟨q,hq,rfl⟩:=List.mem_map.1 hx
  obtain ⟨a,b,_⟩:=h.sel q hq
  obtain ⟨w1,w2,w3,w4⟩:=X.kids.w _ (nodeAt_mem (sel_rng X hs a.1 b))
  refine ⟨w1,w2,?_,fun y hy=>?_⟩
  ·simp only [newN,List.length_map];rw [kidsC_len X];exact w3
  ·obtain ⟨p,hp,rfl⟩:=List.mem_map.1 hy
   unfold posI
   have:=List.idxOf_le_length (a:=p) (l:=vs)
   constructor<;>omega
theorem F84_ok:Ret (F84 (tabR s) ch) (BldQ s ch):=by
 have hn:=X.n
 have hcl:=hs.1
 simp only [F84,F54_eq X,selB_iff.2 hs,wq,reduceCtorEq]
 simp only [tabR,hcl,Int.toNat_natCast,wq,reduceCtorEq]
 refine ⟨fun _=>?_,fun h=>absurd h (by omega)⟩
 refine ret_loop (fun q=>∃ k:Nat,k<=s.1.length/\q=((k:Int),ByteArray.empty,0,0,0,s.1,s.2.1,s.2.2.1,s.2.2.2.1,s.2.2.2.2.1,s.2.2.2.2.2.1,s.2.2.2.2.2.2,clsS s,candS s,ch,ByteArray.empty,0,0,0,false,List.replicate k (-1)++List.replicate (s.1.length - k) 0)) (fun q=>s.1.length - q.1.toNat) ?_ _ ⟨0,by omega,by simp⟩
 rintro _ ⟨k,hk,rfl⟩
 have hw:=wrap_succ k (by omega)
 simp only [L84_1,wq,reduceCtorEq,hcl,hw]
 have hlen:(List.replicate k (-1:Int)++List.replicate (s.1.length - k) 0).length=s.1.length:=by simp;omega
 refine ⟨fun hlt=>?_,fun hge=>?_⟩
 ·rw [gI_inR (l:=List.replicate k (-1:Int)++List.replicate (s.1.length - k) 0) (i:=(k:Int)) (by rw [hlen];exact ⟨by omega,hlt⟩)]
  simp only [wq,reduceCtorEq]
  refine ⟨⟨k+1,by omega,?_⟩,by omega⟩
  have e:s.1.length - k=(s.1.length - (k+1))+1:=by omega
  rw [setI_nat,List.set_append_right _ _ (by simp),List.length_replicate,Nat.sub_self,e,List.replicate_succ,List.set_cons_zero,List.replicate_succ' (n:=k),List.append_assoc]
  rfl
 ·have hkn:k=s.1.length:=by omega
  subst hkn
  rw [Nat.sub_self,List.replicate_zero,List.append_nil]
  have hva:=X.v.va
  have hst:=X.v.st
  rw [X.cget hva]
  simp only [wq,reduceCtorEq]
  have B0:BR s ch (List.replicate s.1.length (-1)) [] []:=⟨⟨List.nodup_nil,fun q hq=>by cases hq⟩,by simp,fun q hq _=>.inl (atI_repl _ _ hq),fun q hq=>(by cases hq),rfl⟩
  have hc0:cntM (List.replicate s.1.length (-1))=s.1.length:=by unfold cntM;simp
  have hv1:=visitR_ok X hs ByteArray.empty 0 0 1000 (atI (clsS s) s.2.2.2.1) .val _ [] [] B0 (fun q hq h=>by rw [atI_repl _ _ hq] at h;omega) (by omega) (by simp only [List.length_nil];omega)
  refine Ret.mono (show Ret (F98 (atI (clsS s) s.2.2.2.1) s.1 s.2.1 s.2.2.1 s.2.2.2.1 s.2.2.2.2.1 s.2.2.2.2.2.1 s.2.2.2.2.2.2 (clsS s) (candS s) ch ByteArray.empty 0 0 0 false (List.replicate s.1.length (-1)) []) _ from hv1) fun o _ ⟨r,pr,bad,At,gn,eo,a1,a2,a3,a4⟩=>?_
  subst eo
  simp only [outV]
  rw [X.cget hst]
  simp only [wq,reduceCtorEq,List.length_nil] at a2 |-
  cases bad with
  | true=>
   have hv2:=visit_bad (s:=s) (ch:=ch) ByteArray.empty r 0 999 (atI (clsS s) s.2.2.2.2.1) pr At gn
   rw [show F98 (atI (clsS s) s.2.2.2.2.1) s.1 s.2.1 s.2.2.1 s.2.2.2.1 s.2.2.2.2.1 s.2.2.2.2.2.1 s.2.2.2.2.2.2 (clsS s) (candS s) ch ByteArray.empty pr r 0 true At gn=_ from hv2]
   simp only [wq,reduceCtorEq,outV,J84_1]
   exact .inl ⟨a3 rfl,rfl⟩
  | false=>
   obtain ⟨es,b1,b2,b3,b4,b5,b6,b7⟩:=a4 rfl
   rw [List.nil_append] at b1 b2 b3 b4 b5
   subst b4 b5
   have hv2:=visitR_ok X hs ByteArray.empty (posI es (atI (clsS s) s.2.2.2.1)) 0 1000 (atI (clsS s) s.2.2.2.2.1) .st At gn es b3 (fun q hq h=>by rw [b6 q hq,atI_repl _ _ hq] at h;omega) (by omega) (by omega)
   refine Ret.mono (show Ret (F98 (atI (clsS s) s.2.2.2.2.1) s.1 s.2.1 s.2.2.1 s.2.2.2.1 s.2.2.2.2.1 s.2.2.2.2.2.1 s.2.2.2.2.2.2 (clsS s) (candS s) ch ByteArray.empty (parM s ch es) (posI es (atI (clsS s) s.2.2.2.1)) 0 false At gn) _ from hv2) fun o _ ⟨r2,pr2,bad2,At2,gn2,eo,c1,c2,c3,c4⟩=>?_
   subst eo
   simp only [outV,J84_1]
   cases bad2 with
   | true=>
    simp only [wq,reduceCtorEq,cond_true]
    exact .inl ⟨c3 rfl,rfl⟩
   | false=>
    obtain ⟨es2,d1,d2,d3,d4,d5,d6,d7⟩:=c4 rfl
    subst d4 d5
    have hP:PoR s ch (es++es2):=⟨d3.toVsI,.cons b1 (.cons d1 .nil),List.mem_append_left _ b2,d2,by
     have:=d3.gn
     have:gn2.length=(es++es2).length:=by rw [this,List.length_map]
     omega⟩
    have eg:((ByteArray.empty,parM s ch (es++es2),gn2,posI es (atI (clsS s) s.2.2.2.1),posI (es++es2) (atI (clsS s) s.2.2.2.2.1)):GrT)=grS s ch (es++es2):=by rw [d3.gn,<-posI_app b2];rfl
    rw [eg,F20_eq _ (grS_G X hs hP).toGraphH]
    simp only [wq,reduceCtorEq,cond_false]
    have e2:=(Prod.mk.inj (Prod.mk.inj (Prod.mk.inj eg).2).2).1
    refine ⟨fun hb=>.inr ⟨_,hP,by rw [hb];rfl⟩,fun hb=>.inr ⟨_,hP,by rw [hb,<-eg];rfl⟩⟩
end
noncomputable def sumN (l:List NodeT):Int:=(l.map ncM).sum
theorem sumN_bd (l:List NodeT):0<=sumN l/\sumN l<=20 * l.length:=by
 induction l with
 | nil=>simp [sumN]
 | cons x l ih=>
  have:=(F76_eq x).2.2
  unfold sumN at ih |-
  simp only [List.map_cons,List.sum_cons,List.length_cons]
  omega
theorem sumN_snoc (l:List NodeT) (x:NodeT):sumN (l++[x])=sumN l+ncM x:=by simp [sumN]
theorem F57_ok {s:SatT} (h:SatH s) (hn:s.1.length<=900) (ch:List Int):Ret (F57 s ch) fun r=>(¬ (ValidP s/\SelP s ch)/\r=(noG,false))\/ValidP s/\SelP s ch/\BldQ s ch r:=by
 simp only [F57,F11_eq s h,wq,reduceCtorEq]
 refine ⟨fun e=>.inl ⟨fun w=>by (rw [validB_true w.1] at e;cases e),rfl⟩,fun e=>?_⟩
 have X:Ctx s:=⟨h,validB_iff.1 e,hn⟩
 rw [F43_eq h X.v]
 simp only [wq,reduceCtorEq]
 by_cases hs:SelP s ch
 ·exact (F84_ok X hs).mono fun r _ hr=>.inr ⟨X.v,hs,hr⟩
 ·have hb:selB s ch=false:=(selB_false hs).symm
  simp only [F84,F54_eq X,hb,wq,reduceCtorEq]
  exact .inl ⟨fun w=>hs w.2,rfl⟩
theorem bldQ_len {s:SatT} (hn:s.1.length<=900) {ch:List Int} {r:GrT×Bool} (h:(¬ (ValidP s/\SelP s ch)/\r=(noG,false))\/ValidP s/\SelP s ch/\BldQ s ch r):r.1.2.2.1.length<=900:=by
 rcases h with ⟨_,rfl⟩ | ⟨_,_,⟨_,rfl⟩ | ⟨vs,hv,rfl⟩⟩
 ·simp [noG]
 ·simp [noG]
 ·have:=hv.len
  cases wfB (grS s ch vs)<;>simp [noG,grS]
  omega
theorem F27_ok {s:SatT} (h:SatH s) (hn:s.1.length<=900) (ch:List Int):Ret (F27 s ch) fun q=>∃ r,F57 s ch=some r/\((¬ (ValidP s/\SelP s ch)/\r=(noG,false))\/ValidP s/\SelP s ch/\BldQ s ch r)/\q=(sumN r.1.2.2.1,r.2):=by
 simp only [F27,wq,reduceCtorEq]
 refine (F57_ok h hn ch).mono fun r er hr=>?_
 have hl:=bldQ_len hn hr
 refine ret_loop (fun q:Int×Int=>∃ k:Nat,k<=r.1.2.2.1.length/\q=(sumN (r.1.2.2.1.take k),(k:Int))) (fun q=>r.1.2.2.1.length - q.2.toNat) ?_ _ ⟨0,by omega,by simp [sumN]⟩
 rintro _ ⟨k,hk,rfl⟩
 have hw:=wrap_succ k (by omega)
 simp only [L27_1,wq,reduceCtorEq,hw]
 refine ⟨fun hlt=>ret_gI (by omega) hlt fun x hx _=>?_,fun hge=>?_⟩
 ·rw [gI_nat] at hx
  have hb:=sumN_bd (r.1.2.2.1.take k)
  rw [List.length_take] at hb
  have hc:=(F76_eq x).2.2
  simp only [(F76_eq x).2.1,wq,reduceCtorEq]
  refine ⟨⟨k+1,by omega,?_⟩,by omega⟩
  rw [List.take_add_one,hx,Option.toList_some,sumN_snoc,wrap_id (by omega) (by omega)]
 ·rw [List.take_of_length_le (by omega)]
  exact ⟨r,er,hr,rfl⟩
theorem sum_erase (f:Int->Int):∀ (l:List Int) (a:Int),a∈l->(l.map f).sum=f a+((l.erase a).map f).sum
 | b::l,a,h=>by
  by_cases e:b=a
  ·subst e;simp
  ·rw [List.erase_cons_tail (by simpa using e)]
   have:=sum_erase f l a (by rcases List.mem_cons.1 h with h | h;exact absurd h.symm e;exact h)
   simp only [List.map_cons,List.sum_cons]
   omega
theorem sum_nonneg (f:Int->Int):∀ l:List Int,(∀ a∈l,0<=f a)->0<=(l.map f).sum
 | [],_=>by simp
 | a::l,h=>by
  have:=sum_nonneg f l fun b hb=>h b (List.mem_cons_of_mem _ hb)
  have:=h a (by simp)
  simp only [List.map_cons,List.sum_cons]
  omega
theorem sum_sub (f g:Int->Int):∀ (l r:List Int),l.Nodup->(∀ a∈l,a∈r/\f a<=g a)->(∀ a∈r,0<=g a)->(l.map f).sum<=(r.map g).sum
 | [],r,_,_,h=>by simpa using sum_nonneg g r h
 | a::l,r,hd,hs,h=>by
  have h1:=hs a (by simp)
  rw [List.nodup_cons] at hd
  have:=sum_sub f g l (r.erase a) hd.2 (fun b hb=>⟨by
   have h2:=(hs b (List.mem_cons_of_mem _ hb)).1
   exact (List.mem_erase_of_ne (fun e:b=a=>hd.1 (e▸hb))).2 h2,(hs b (List.mem_cons_of_mem _ hb)).2⟩) fun b hb=>h b (List.mem_of_mem_erase hb)
  rw [sum_erase g r a h1.1]
  simp only [List.map_cons,List.sum_cons]
  omega
section
variable {s:SatT} (X:Ctx s) {a ch:List Int} (ha:SelP s a) (hs:SelP s ch) (hp:PartP s a ch) {need:List Bool} (hN:NeedOk s a need) {vs:List Int} (hv:PoR s ch vs)
include X ha hs hp hN hv
theorem dec_vs {q:Int} (hq:q∈vs):decC s ch q=atI ch q:=by unfold decC;rw [if_pos (hv.sel q hq).2.1]
theorem reach_vs {q:Int} (h:Reach s ch q):q∈vs:=by
 induction h with
 | val=>exact hv.va
 | st=>exact hv.st
 | step h1 h2 h3 ih=>
  obtain ⟨_,b,c⟩:=hv.sel _ ih
  have e:=dec_vs X ha hs hp hN hv ih
  unfold reqP at h2
  rw [if_pos (by omega),e] at h2
  exact (c _ h2).1
theorem need_vs {q:Int} (hq:inR s.1.length q) (h:getB need q=true):q∈vs:=reach_vs X ha hs hp hN hv (reach_more X ha hs hp ((hN.ok q hq).1 h))
theorem bound_le:(lbM s a need).2.2.1<=sumN (grS s ch vs).2.2.1:=by
 rw [lbM_cost X]
 have e:sumQ s a need (repsM (clsS s) s.1.length)=(((repsM (clsS s) s.1.length).filter fun q=>getB need q).map (costQ s a)).sum:=by
  unfold sumQ
  generalize repsM (clsS s) s.1.length=l
  induction l with
  | nil=>rfl
  | cons q l ih=>
   simp only [List.map_cons,List.sum_cons,List.filter_cons]
   split
   ·rw [List.map_cons,List.sum_cons,ih]
   ·rw [ih];omega
 have e2:sumN (grS s ch vs).2.2.1=(vs.map fun q=>ncM (newN s ch vs q)).sum:=by simp [sumN,grS,Function.comp_def]
 rw [e,e2]
 refine sum_sub _ _ _ _ ?_ (fun q hq=>?_) fun q hq=>(F76_eq _).2.2.1
 ·refine List.Pairwise.filter _ ?_
  unfold repsM
  refine List.Pairwise.filter _ ?_
  unfold idN
  exact List.Pairwise.map _ (fun a b hab=>by omega) (List.nodup_range (n:=s.1.length))
 ·rw [List.mem_filter] at hq
  have hr:=reps_rep X hq.1
  have hm:=need_vs X ha hs hp hN hv hr.1 hq.2
  refine ⟨hm,?_⟩
  have h1:=cost_more X ha hs hp hr.1
  have h2:costQ s ch q=ncM (newN s ch vs q):=by
   unfold costQ
   have e:=dec_vs X ha hs hp hN hv hm
   rw [if_pos (by rw [e];exact (hv.sel q hm).2.1),e]
   exact ncM_op rfl
  omega
theorem dn_vs:∀ (n:Nat) (q:Int),q∈vs->posI vs q < n->0<=decC s a q->Dn s a q
 | 0,q,_,h,_=>by have:=posI_nn vs q;omega
 | n+1,q,hq,hlt,hd=>by
  obtain ⟨h1,h2,h3⟩:=hv.sel q hq
  obtain ⟨d1,d2⟩:=dec_more X ha hs hp h1.1 hd
  rw [dec_vs X ha hs hp hN hv hq] at d2
  refine .mk fun p hpk hdp=>?_
  rw [kidsC_cong X d2] at hpk
  obtain ⟨p1,p2⟩:=h3 p hpk
  exact dn_vs n p p1 (by omega) hdp
theorem bound_acyc:(lbM s a need).2.2.2=true:=by
 have:¬ CycP s a need:=fun ⟨q,hA,hn⟩=>hn (dn_vs X ha hs hp hN hv (vs.length+1) q (need_vs X ha hs hp hN hv hA.r hA.n) (by have:=posI_lt (need_vs X ha hs hp hN hv hA.r hA.n);omega) hA.d)
 show (!cycB s a need)=true
 rw [<-cycB_false this];rfl
end
theorem boundAdmissible_plain (l pairs which:List Int) (mask:Int) (hl:∀ x∈l,I64 x):F6 l pairs which mask=some true:=by
 refine Ret.eq ?_
 simp only [F6,wq,reduceCtorEq]
 refine (F9_ok l pairs hl).mono fun s _ hq=>?_
 have h:=MerQ.satH hq
 have hn:s.1.length<=900:=by have:=hq.1.len;omega
 refine (F22_ok h hn which).mono fun ch _ hch=>?_
 have hcl:=hch.len
 refine (F27_ok h hn ch).mono fun q _ ⟨r,er,hr,eq⟩=>?_
 subst eq
 have key:∀ m:Int,∃ a:List Int×Int×Bool,F24 s (partM m ch ch.length)=some a/\(r.2=true->a.2.2=true/\a.2.1<=sumN r.1.2.2.1):=fun m=>by
  by_cases hv:ValidP s
  ·have X:Ctx s:=⟨h,hv,hn⟩
   have hs:=hch.sel hv
   obtain ⟨h1,hp⟩:=hch.satpart hv m
   obtain ⟨na,hA,ea⟩:=lowerBound_sel X h1
   refine ⟨_,ea,fun e=>?_⟩
   rcases hr with ⟨hno,_⟩ | ⟨_,_,⟨_,rfl⟩ | ⟨vs,hvs,rfl⟩⟩
   ·exact absurd ⟨hv,hs⟩ hno
   ·cases e
   ·cases hw:wfB (grS s ch vs)
    ·rw [hw] at e;cases e
    ·exact ⟨bound_acyc X h1 hs hp hA hvs,bound_le X h1 hs hp hA hvs⟩
  ·refine ⟨_,lowerBound_bad h hn (fun e=>hv e.1),fun e=>?_⟩
   rcases hr with ⟨_,rfl⟩ | ⟨hv',_⟩
   ·cases e
   ·exact absurd hv' hv
 obtain ⟨a,ea,ha⟩:=key mask
 obtain ⟨b,eb,hb⟩:=key 0
 simp only [F23_eq ch _ (by omega),wq,reduceCtorEq,ea,eb,J6_1]
 refine ⟨fun _=>⟨true,rfl,rfl⟩,fun e=>?_⟩
 obtain ⟨a1,a2⟩:=ha e
 obtain ⟨b1,b2⟩:=hb e
 refine ⟨fun _=>⟨fun _=>⟨fun _=>⟨fun _=>⟨true,rfl,rfl⟩,fun h=>by omega⟩,fun h=>by (rw [b1] at h;cases h)⟩,fun h=>by omega⟩,fun h=>by (rw [a1] at h;cases h)⟩
theorem boundAdmissible_law (x0 x1 x2:List Int) (x3:Int) (_:x0.length<=9223372036854775807) (hw0:∀ x∈x0,I64 x) (_:x1.length<=9223372036854775807) (_:∀ x∈x1,I64 x) (_:x2.length<=9223372036854775807) (_:∀ x∈x2,I64 x) (_:I64 x3):F6 x0 x1 x2 x3=some true:=
 boundAdmissible_plain x0 x1 x2 x3 hw0
end Go.Dat
