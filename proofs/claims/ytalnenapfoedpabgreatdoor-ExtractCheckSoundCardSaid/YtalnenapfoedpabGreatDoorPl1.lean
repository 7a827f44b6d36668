import Derived.Test.YtalnenapfoedpabGreatDoorPl0
noncomputable section
set_option linter.unusedSimpArgs false
set_option linter.unusedVariables false
set_option linter.unusedSectionVars false
open Option.some (inj)
open Go.IntKind (wrap)
open ByteArray (empty)
open List (replicate append_assoc length_nil mem_singleton mem_append mem_cons_of_mem length_cons take_of_length_le take_add_one mem_of_getElem? map_cons getElem?_of_mem sum_cons getElem?_eq_getElem length_take mem_cons mem_append_left length_map mem_filter map_congr_left append_nil foldl_cons mem_cons_self map_append mem_map length_replicate nil_append getElem?_map getElem?_range length_pos_iff)
open Int (tdiv tmod toNat_natCast toNat)
open BitVec (ofInt testBit_toNat)
open Nat (le_refl sub_self)
open Option (bind_some)
namespace Go.Dat
open Go.Eng
mutual
inductive Po (s:Za5) (ch:List Int):Int->List Int->List Int->Prop
 | seen {c:Int} {vs:List Int}:c∈vs->Po s ch c vs vs
 | new {c:Int} {vs ws:List Int}:c∉vs->0<=atI ch c->PoL s ch (Zbh s (atI ch c)) vs ws->c∉ws->Po s ch c vs (ws++[c])
inductive PoL (s:Za5) (ch:List Int):List Int->List Int->List Int->Prop
 | nil {vs:List Int}:PoL s ch [] vs vs
 | cons {p:Int} {ps vs us ws:List Int}:Po s ch p vs us->PoL s ch ps us ws->PoL s ch (p::ps) vs ws
end
theorem PoL.snoc {s:Za5} {ch:List Int}:∀ {ps vs us:List Int},PoL s ch ps vs us->∀ {p:Int} {ws:List Int},Po s ch p us ws->PoL s ch (ps++[p]) vs ws
 | [],_,_,.nil,_,_,h=>.cons h .nil
 | _::_,_,_,.cons h1 h2,_,_,h=>.cons h1 (h2.snoc h)
def EdS (s:Za5) (ch:List Int) (a b:Int):Prop:=0<=atI ch a/\b∈Zbh s (atI ch a)
inductive RS (s:Za5) (ch:List Int):Int->Prop
 | val:RS s ch (atI (Zai s) s.2.2.2.1)
 | st:RS s ch (atI (Zai s) s.2.2.2.2.1)
 | step {q p:Int}:RS s ch q->EdS s ch q p->RS s ch p
inductive ZnS (s:Za5) (ch:List Int):Int->Int->Prop
 | refl {a:Int}:ZnS s ch a a
 | snoc {a b c:Int}:ZnS s ch a b->EdS s ch b c->ZnS s ch a c
def Zqx (s:Za5) (ch:List Int):Prop:=∃ q,RS s ch q/\(atI ch q < 0\/∃ p,EdS s ch q p/\ZnS s ch p q)
theorem ZnS.head {s:Za5} {ch:List Int} {a b:Int} (h:ZnS s ch a b):a=b\/∃ c,EdS s ch a c/\ZnS s ch c b:=by
 induction h with
 | refl=>exact .inl rfl
 | snoc _ e ih=>
  rcases ih with rfl | ⟨c,h1,h2⟩
  ·exact .inr ⟨_,e,.refl⟩
  ·exact .inr ⟨c,h1,h2.snoc e⟩
def ZdD (vs:List Int) (p:Int):Int:=((vs.idxOf p:Nat):Int)
theorem Zd3 {vs es:List Int} {p:Int} (h:p∈vs):ZdD (vs++es) p=ZdD vs p:=by unfold ZdD;rw [List.idxOf_append,if_pos h]
theorem Zhe {vs:List Int} {p:Int} (h:p∉vs):ZdD (vs++[p]) p=vs.length:=by
 unfold ZdD;rw [List.idxOf_append,if_neg h];simp
theorem Zqy {vs:List Int} {p:Int} (h:p∈vs):ZdD vs p < vs.length:=by unfold ZdD;have:=List.idxOf_lt_length_iff.2 h;omega
theorem Zqz (vs:List Int) (p:Int):0<=ZdD vs p:=by unfold ZdD;omega
def Zjp (s:Za5) (ch vs:List Int) (q:Int):Zae:=((Zar s.1 (atI ch q)).1,(Zar s.1 (atI ch q)).2.1,(Zbh s (atI ch q)).map (ZdD vs))
def ZkA (s:Za5) (ch:List Int) (m q:Int):Int:=if (Zar s.1 (atI ch q)).1=2/\m<=(Zar s.1 (atI ch q)).2.1 then wrap .i64 ((Zar s.1 (atI ch q)).2.1+1) else m
def Zig (s:Za5) (ch vs:List Int):Int:=vs.foldl (ZkA s ch) 0
theorem Zhf (s:Za5) (ch vs:List Int) (c:Int):Zig s ch (vs++[c])=ZkA s ch (Zig s ch vs) c:=by unfold Zig;rw [List.foldl_append];rfl
structure VsI (s:Za5) (ch vs:List Int):Prop where
 nd:vs.Nodup
 sel:∀ q∈vs,ZfW s q/\0<=atI ch q/\∀ p∈Zbh s (atI ch q),p∈vs/\ZdD vs p < ZdD vs q
structure BR (s:Za5) (ch:List Int) (At:List Int) (gn:List Zae) (vs:List Int):Prop extends VsI s ch vs where
 len:At.length=s.1.length
 v:∀ q,inR s.1.length q->q∉vs->atI At q=-1\/atI At q=-2
 idx:∀ q∈vs,atI At q=ZdD vs q
 gn:gn=vs.map (Zjp s ch vs)
theorem VsI.snoc {s:Za5} {ch vs:List Int} (h:VsI s ch vs) {c:Int} (hc:ZfW s c) (hn:c∉vs) (hs:0<=atI ch c) (hk:∀ p∈Zbh s (atI ch c),p∈vs):VsI s ch (vs++[c]):=by
 refine ⟨?_,fun q hq=>?_⟩
 ·rw [List.nodup_append]
  exact ⟨h.nd,by simp,fun a ha b hb=>by rw [mem_singleton.1 hb];exact fun e=>hn (e▸ha)⟩
 ·rcases mem_append.1 hq with hq | hq
  ·obtain ⟨a,b,d⟩:=h.sel q hq
   exact ⟨a,b,fun p hp=>⟨mem_append_left _ (d p hp).1,by rw [Zd3 (d p hp).1,Zd3 hq];exact (d p hp).2⟩⟩
  ·rw [mem_singleton.1 hq]
   exact ⟨hc,hs,fun p hp=>⟨mem_append_left _ (hk p hp),by rw [Zd3 (hk p hp),Zhe hn];exact Zqy (hk p hp)⟩⟩
theorem ZmU {s:Za5} {ch vs es:List Int} {q:Int} (h:∀ p∈Zbh s (atI ch q),p∈vs):Zjp s ch (vs++es) q=Zjp s ch vs q:=by
 unfold Zjp
 rw [map_congr_left fun p hp=>Zd3 (h p hp)]
theorem Zsr {s:Za5} {ch vs:List Int} (h:VsI s ch vs) (es:List Int):vs.map (Zjp s ch (vs++es))=vs.map (Zjp s ch vs):=
 map_congr_left fun q hq=>ZmU fun p hp=>((h.sel q hq).2.2 p hp).1
def Zjq (l:List Int):Nat:=l.count (-1)
theorem Zss {l:List Int} {i x:Int} (hi:inR l.length i) (h:atI l i=-1) (hx:x≠-1):Zjq (Zaq l i x)+1=Zjq l:=by
 have h1:=hi.1
 have h2:i.toNat < l.length:=by have:=hi.2;omega
 have h3:l[i.toNat]=-1:=by
  unfold atI at h
  rw [getElem?_eq_getElem h2] at h;exact h
 unfold Zjq Zaq
 rw [List.count_set h2,h3]
 have:0 < l.count (-1):=List.count_pos_iff.2 (by rw [<-h3];exact List.getElem_mem h2)
 simp [hx]
 omega
theorem Zlt {l:List Int} {i x:Int} (hi:inR l.length i) (hx:x≠-1):Zjq (Zaq l i x)<=Zjq l:=by
 have h2:i.toNat < l.length:=by have:=hi.1;have:=hi.2;omega
 unfold Zjq Zaq
 rw [List.count_set h2]
 simp [hx]
abbrev Z1E:=Int×List Zae×List Zew×List (Int×Int×Int)×Int×Int×Int×Int×List Int×List (List Int)×List Int×ByteArray×Int×Int×Int×Bool×List Int×List Zae
def ZqC (s:Za5) (ch:List Int) (nm:ByteArray) (gv gs r pr:Int) (bad:Bool) (At:List Int) (gn:List Zae):Z1E:=
 (r,s.1,s.2.1,s.2.2.1,s.2.2.2.1,s.2.2.2.2.1,s.2.2.2.2.2.1,s.2.2.2.2.2.2,Zai s,Zaz s,ch,nm,pr,gv,gs,bad,At,gn)
section
variable {s:Za5} (X:Ctx s) {ch:List Int} (hs:Zdi s ch) (nm:ByteArray) (gv gs:Int)
def Z1F (s:Za5) (ch:List Int) (nm:ByteArray) (gv gs:Int) (c:Int) (At:List Int) (gn:List Zae) (vs:List Int) (o:Z1E):Prop:=
 ∃ r pr bad At' gn',o=ZqC s ch nm gv gs r pr bad At' gn'/\At'.length=s.1.length/\gn'.length+Zjq At'<=gn.length+Zjq At/\(bad=true->Zqx s ch) /\
  (bad=false->∃ es,Po s ch c vs (vs++es)/\c∈vs++es/\BR s ch At' gn' (vs++es)/\pr=Zig s ch (vs++es)/\r=ZdD (vs++es) c/\(∀ q,inR s.1.length q->(atI At' q=-2↔atI At q=-2))/\Zjq At'<=Zjq At)
abbrev Z2o (s:Za5) (ch:List Int) (nm:ByteArray) (gv gs:Int) (n:Nat) (c pr:Int) (bad:Bool) (At:List Int) (gn:List Zae):Option Z1E:=
 N62 n c s.1 s.2.1 s.2.2.1 s.2.2.2.1 s.2.2.2.2.1 s.2.2.2.2.2.1 s.2.2.2.2.2.2 (Zai s) (Zaz s) ch nm pr gv gs bad At gn
theorem Zk4 (n:Nat) (c pr:Int) (At:List Int) (gn:List Zae):Z2o s ch nm gv gs (n+1) c pr true At gn=some (ZqC s ch nm gv gs 0 pr true At gn):=by
 refine Ret.eq ?_
 show Ret (G62 _ c s.1 s.2.1 s.2.2.1 s.2.2.2.1 s.2.2.2.2.1 s.2.2.2.2.2.1 s.2.2.2.2.2.2 (Zai s) (Zaz s) ch nm pr gv gs true At gn) _
 simp only [G62,Z8W,wq,reduceCtorEq,ZqC]
include X hs
theorem RS.rep {q:Int} (h:RS s ch q):ZfW s q:=by
 induction h with
 | val=>exact ⟨X.ci.rng X.v.va,X.ci.r2 _ X.v.va⟩
 | st=>exact ⟨X.ci.rng X.v.st,X.ci.r2 _ X.v.st⟩
 | step h1 e ih=>
  rcases hs.2 _ ih.1 with h | ⟨_,h,_⟩
  ·have:=e.1;omega
  ·exact Zdf X h e.2
theorem Zf4 {q:Int} (hq:inR s.1.length q) (h:0<=atI ch q):inR s.1.length (atI ch q):=by
 rcases hs.2 q hq with e | ⟨_,e,_⟩
 ·omega
 ·exact e
theorem Zhg:∀ (n:Nat) (c:Int),RS s ch c->∀ (At:List Int) (gn:List Zae) (vs:List Int),BR s ch At gn vs->(∀ q,inR s.1.length q->atI At q=-2->∃ b,ZnS s ch q b/\EdS s ch b c)->Zjq At < n->gn.length+Zjq At<=900 ->
 Ret (Z2o s ch nm gv gs n c (Zig s ch vs) false At gn) (Z1F s ch nm gv gs c At gn vs)
 | 0,c,hc,At,gn,vs,hB,h1,hz,hg=>by omega
 | n+1,c,hc,At,gn,vs,hB,h1,hz,hg=>by
  have hrep:=RS.rep X hs hc
  have hal:inR At.length c:=by rw [hB.len];exact hrep.1
  have hga:gI At c=some (atI At c):=ZaB hal
  have hgc:gI ch c=some (atI ch c):=ZaB (by rw [hs.1];exact hrep.1)
  show Ret (G62 (N62 n) c s.1 s.2.1 s.2.2.1 s.2.2.2.1 s.2.2.2.2.1 s.2.2.2.2.2.1 s.2.2.2.2.2.2 (Zai s) (Zaz s) ch nm (Zig s ch vs) gv gs false At gn) _
  simp only [G62,hga,hgc,wq,reduceCtorEq,Z8W]
  have bad:Zqx s ch->Z1F s ch nm gv gs c At gn vs (ZqC s ch nm gv gs 0 (Zig s ch vs) true At gn):=fun h=>⟨0,_,true,At,gn,rfl,hB.len,le_refl _,fun _=>h,fun h=>by cases h⟩
  refine ⟨fun e=>?_,fun e2=>⟨fun e=>?_,fun e3=>⟨fun e=>?_,fun e4=>?_⟩⟩⟩
  ·obtain ⟨b,p1,p2⟩:=h1 c hrep.1 e
   refine bad ⟨c,hc,.inr ?_⟩
   rcases p1.head with rfl | ⟨d,h3,h4⟩
   ·exact ⟨_,p2,.refl⟩
   ·exact ⟨d,h3,h4.snoc p2⟩
  ·exact bad ⟨c,hc,.inl e⟩
  ·have hin:c∈vs:=by
    by_cases h:c∈vs
    ·exact h
    ·rcases hB.v c hrep.1 h with h | h<;>omega
   refine ⟨atI At c,_,false,At,gn,rfl,hB.len,le_refl _,(fun h=>by cases h),fun _=>⟨[],?_⟩⟩
   rw [append_nil]
   exact ⟨.seen hin,hin,hB,rfl,hB.idx c hin,fun _ _=>Iff.rfl,le_refl _⟩
  have hin:c∉vs:=fun h=>by have:=hB.idx c h;have:=Zqz vs c;omega
  have em1:atI At c=-1:=by rcases hB.v c hrep.1 hin with h | h;exact h;exact absurd h e2
  have hdr:=Zf4 X hs hrep.1 e3
  have hkl:=X.kids.k _ (Zav hdr)
  have hkr:=X.kids.r _ (Zav hdr)
  simp only [Za2 hdr,wq,reduceCtorEq]
  have hz1:=Zss hal em1 (x:=-2) (by omega)
  have B1:BR s ch (Zaq At c (-2)) gn vs:=by
   refine ⟨hB.toVsI,by rw [Zay];exact hB.len,fun q hq hnq=>?_,fun q hq=>?_,hB.gn⟩
   ·rw [Za3 hal hq.1];split
    ·exact .inr rfl
    ·exact hB.v q hq hnq
   ·rw [Za3 hal ((hB.sel q hq).1.1).1,if_neg (fun e:q=c=>hin (e▸hq))];exact hB.idx q hq
  refine Zac (fun o=>∃ (j:Nat) (pr:Int) (bad:Bool) (kids At':List Int) (gn':List Zae),o=((j:Int),s.1,s.2.1,s.2.2.1,s.2.2.2.1,s.2.2.2.2.1,s.2.2.2.2.2.1,s.2.2.2.2.2.2,Zai s,Zaz s,ch,nm,pr,gv,gs,bad,kids,At',gn')/\j<=(Zar s.1 (atI ch c)).2.2.length/\kids.length=j/\At'.length=s.1.length/\gn'.length+Zjq At'<=gn.length+Zjq (Zaq At c (-2))/\(bad=true->Zqx s ch) /\
   (bad=false->∃ es,PoL s ch (Za9 s (atI ch c) j) vs (vs++es)/\(∀ p∈Za9 s (atI ch c) j,p∈vs++es)/\BR s ch At' gn' (vs++es)/\pr=Zig s ch (vs++es)/\kids=(Za9 s (atI ch c) j).map (ZdD (vs++es))/\(∀ q,inR s.1.length q->(atI At' q=-2↔atI (Zaq At c (-2)) q=-2))/\Zjq At'<=Zjq (Zaq At c (-2)))) (fun o=>(Zar s.1 (atI ch c)).2.2.length - o.1.toNat) ?_ _ ⟨0,_,false,[],_,gn,rfl,by omega,rfl,by rw [Zay];exact hB.len,le_refl _,(fun h=>by cases h),fun _=>⟨[],?_⟩⟩
  ·rintro _ ⟨j,pr,bad,kids,At',gn',rfl,hj,hkl',hl',hc',hbad,hok⟩
   have hw:=Zab j (by omega)
   simp only [ZA6,wq,reduceCtorEq,hw]
   refine ⟨fun hlt=>Zaj (by omega) hlt fun y hy hym=>?_,fun hge=>?_⟩
   ·have hyr:=hkr y hym
    rw [X.cget hyr]
    simp only [wq,reduceCtorEq]
    rw [Zax] at hy
    have hgk:=ZbV X hy
    have hpm:atI (Zai s) y∈Zbh s (atI ch c):=mem_of_getElem? hgk
    have hsn:Za9 s (atI ch c) (j+1)=Za9 s (atI ch c) j++[atI (Zai s) y]:=by unfold Za9;rw [take_add_one,hgk];rfl
    cases bad with
    | true=>
     obtain ⟨n',rfl⟩:∃ n',n=n'+1:=⟨n - 1,by omega⟩
     have hv:=Zk4 (s:=s) (ch:=ch) nm gv gs n' (atI (Zai s) y) pr At' gn'
     rw [show N62 (n'+1) (atI (Zai s) y) s.1 s.2.1 s.2.2.1 s.2.2.2.1 s.2.2.2.2.1 s.2.2.2.2.2.1 s.2.2.2.2.2.2 (Zai s) (Zaz s) ch nm pr gv gs true At' gn'=_ from hv]
     simp only [wq,reduceCtorEq,ZqC]
     exact ⟨fun _=>⟨⟨j+1,pr,true,_,At',gn',rfl,by omega,by simp;omega,hl',hc',hbad,fun h=>by cases h⟩,by omega⟩,fun h=>absurd h (by simp only [length_cons,length_nil];omega)⟩
    | false=>
     obtain ⟨es,q1,q2,q3,rfl,rfl,q6,q7⟩:=hok rfl
     refine (Zhg n _ (.step hc ⟨e3,hpm⟩) At' gn' (vs++es) q3 (fun q hqr h=>?_) (by omega) (by omega)).mono fun o _ ⟨r,pr2,bad2,At2,gn2,eo,w1,w2,w3,w4⟩=>?_
     ·have hh:=(q6 q hqr).1 h
      rw [Za3 hal hqr.1] at hh
      split at hh
      ·subst ‹q=c›;exact ⟨q,.refl,e3,hpm⟩
      ·obtain ⟨b,p1,p2⟩:=h1 q hqr hh
       exact ⟨c,p1.snoc p2,e3,hpm⟩
     ·subst eo
      simp only [ZqC]
      refine ⟨fun _=>⟨⟨j+1,pr2,bad2,_,At2,gn2,rfl,by omega,by simp;unfold Za9;rw [length_take,Zbw X];omega,w1,by omega,w3,fun h=>?_⟩,by omega⟩,fun h=>absurd h (by simp only [length_cons,length_nil];omega)⟩
      obtain ⟨es2,z1,z2,z3,z4,z5,z6,z7⟩:=w4 h
      refine ⟨es++es2,?_,fun p hp=>?_,?_,?_,?_,fun q hqr=>(z6 q hqr).trans (q6 q hqr),by omega⟩
      ·rw [hsn,<-append_assoc];exact q1.snoc z1
      ·rw [<-append_assoc]
       rw [hsn] at hp
       rcases mem_append.1 hp with hp | hp
       ·exact mem_append_left _ (q2 p hp)
       ·rw [mem_singleton.1 hp];exact z2
      ·rw [<-append_assoc];exact z3
      ·rw [<-append_assoc];exact z4
      ·rw [hsn,map_append,<-append_assoc,z5]
       congr 1
       exact map_congr_left fun p hp=>(Zd3 (q2 p hp)).symm
   ·have hal':inR At'.length c:=by rw [hl'];exact hrep.1
    have hjl:j=(Zar s.1 (atI ch c)).2.2.length:=by omega
    have hall:Za9 s (atI ch c) j=Zbh s (atI ch c):=by unfold Za9;rw [take_of_length_le (by rw [Zbw X];omega)]
    have hzl:=Zlt hal' (x:=(gn'.length:Int)) (by omega)
    have hgs:gI (Zaq At' c (gn'.length:Int)) c=some (gn'.length:Int):=ZtA _ hal'.1 hal'.2
    simp only [ZaB hal',ZA5,ZA4,hgs,wq,reduceCtorEq]
    refine ⟨fun _=>?_,fun h=>absurd h (by simp only [length_cons,length_nil];omega)⟩
    have fin:∀ pr',(bad=false->pr'=ZkA s ch pr c)->Z1F s ch nm gv gs c At gn vs (ZqC s ch nm gv gs (gn'.length:Int) pr' bad (Zaq At' c (gn'.length:Int)) (gn'++[((Zar s.1 (atI ch c)).1,(Zar s.1 (atI ch c)).2.1,kids)])):=by
     intro pr' hpr'
     refine ⟨_,pr',bad,_,_,rfl,by rw [Zay];exact hl',by simp;omega,hbad,fun h=>?_⟩
     obtain ⟨es,q1,q2,q3,e5,e6,q6,q7⟩:=hok h
     rw [hall] at q1 q2 e6
     have hcn:c∉vs++es:=fun hm=>by
      have h5:=q3.idx c hm
      have h6:=(q6 c hrep.1).2 (by rw [Za3 hal hrep.1.1,if_pos rfl])
      have:=Zqz (vs++es) c
      omega
     have hlen:gn'.length=(vs++es).length:=by rw [q3.gn,length_map]
     have hV:=q3.toVsI.snoc hrep hcn e3 q2
     refine ⟨es++[c],?_,by simp,⟨by rw [<-append_assoc];exact hV,by rw [Zay];exact hl',fun q hq hnq=>?_,fun q hq=>?_,?_⟩,?_,?_,fun q hq=>?_,by omega⟩
     ·rw [<-append_assoc];exact .new hin e3 q1 hcn
     ·rw [<-append_assoc,mem_append,mem_singleton] at hnq
      rw [Za3 hal' hq.1,if_neg (fun e=>hnq (.inr e))]
      exact q3.v q hq fun hm=>hnq (.inl hm)
     ·rw [<-append_assoc,mem_append,mem_singleton] at hq
      rw [<-append_assoc]
      rcases hq with hq | rfl
      ·rw [Za3 hal' ((q3.sel q hq).1.1).1,if_neg (fun e:q=c=>hcn (e▸hq)),Zd3 hq];exact q3.idx q hq
      ·rw [Za3 hal' hrep.1.1,if_pos rfl,Zhe hcn,hlen]
     ·rw [<-append_assoc,map_append,Zsr q3.toVsI,<-q3.gn]
      congr 1
      simp only [map_cons,List.map_nil]
      rw [ZmU q2,Zjp,e6]
     ·rw [hpr' h,e5,<-append_assoc,Zhf]
     ·rw [<-append_assoc,Zhe hcn,hlen]
     ·rw [Za3 hal' hq.1]
      split
      ·subst ‹q=c›;constructor<;>intro h<;>omega
      ·rename_i hne
       rw [q6 q hq,Za3 hal hq.1,if_neg hne]
    refine ⟨fun e5=>⟨fun e6=>fin _ fun h=>?_,fun e6=>fin _ fun h=>?_⟩,fun e5=>fin _ fun h=>?_⟩
    ·rw [ZkA,if_pos ⟨e5,e6⟩]
    ·rw [ZkA,if_neg (fun h=>by omega)]
    ·rw [ZkA,if_neg (fun h=>e5 h.1)]
  ·rw [append_nil]
   exact ⟨.nil,fun p hp=>by simp [Za9] at hp,B1,rfl,by simp [Za9],fun _ _=>Iff.rfl,le_refl _⟩
end
end Go.Dat
namespace Go.Dat
open Go.Eng
abbrev GrT:=ByteArray×Int×List Zae×Int×Int
inductive Dp (l:List Zae):Nat->Int->Prop
 | var {i:Nat} {x:Zae}:l[i]?=some x->x.1=3->Dp l i (tdiv x.2.1 16)
 | kid {i k q:Nat} {x:Zae} {j:Int}:l[i]?=some x->x.2.2[k]?=some (q:Int)->Dp l q j->(x.1≠31\/j≠x.2.1\/k < x.2.2.length / 2)->Dp l i j
theorem Dp.inv {l:List Zae} {i:Nat} {x:Zae} {j:Int} (hx:l[i]?=some x) (h:Dp l i j):(x.1=3/\j=tdiv x.2.1 16)\/∃ k q:Nat,x.2.2[k]?=some (q:Int)/\Dp l q j/\(x.1≠31\/j≠x.2.1\/k < x.2.2.length / 2):=by
 cases h with
 | var h1 h2=>rw [hx] at h1;obtain rfl:=inj h1;exact .inl ⟨h2,rfl⟩
 | kid h1 h2 h3 h4=>rw [hx] at h1;obtain rfl:=inj h1;exact .inr ⟨_,_,h2,h3,h4⟩
structure WfP (g:GrT):Prop where
 good:Zex g.2.2.1 g.2.2.1.length
 va:ZfU (Zam g.2.2.1 g.2.2.1.length) g.2.2.2.1=1
 st:ZfU (Zam g.2.2.1 g.2.2.1.length) g.2.2.2.2=2
 lp:∀ i k:Nat,k < i->∀ x y,g.2.2.1[i]?=some x->g.2.2.1[k]?=some y->x.1=31->y.1=31->y.2.1≠x.2.1
 lv:∀ x∈g.2.2.1,x.1=3->∀ y∈g.2.2.1,y.1=31->y.2.1=tdiv x.2.1 16->tmod x.2.1 16 < ((y.2.2.length / 2:Nat):Int)
 dp:∀ j:Int,0<=j->j < 16->¬ Dp g.2.2.1 g.2.2.2.1.toNat j/\¬ Dp g.2.2.1 g.2.2.2.2.toNat j
open Classical in
def wfB (g:GrT):Bool:=decide (WfP g)
theorem Zst {g:GrT} (h:WfP g):true=wfB g:=by unfold wfB;simp [h]
theorem Zbx {g:GrT} (h:¬ WfP g):false=wfB g:=by unfold wfB;simp [h]
theorem ZvJ {g:GrT}:wfB g=true↔WfP g:=by unfold wfB;simp
theorem Zhh {l:List Zae} (hG:GraphH l) (hg:Zex l l.length) {i:Nat} {x:Zae} (hx:l[i]?=some x):(x.1=2->0<=x.2.1/\x.2.1 < 6)/\(x.1=3->0<=x.2.1/\x.2.1 < 256)/\(x.1=31->0<=x.2.1/\x.2.1 < 16/\∃ m:Nat,x.2.2.length=2 * m+1/\1<=m/\m<=16):=by
 have hi:=ZaA hx
 have h1:=(hg i hi).1
 have h2:(Zam l l.length)[i]?=some (Zbu l (Zam l i) i x):=by
  rw [Zek l i l.length hi]
  have hl:=ZaK l i
  show (Zam l i++[match l[i]? with | some n=>Zbu l (Zam l i) i n | none=>0])[i]?=_
  rw [List.getElem?_append_right (by omega),hl,hx];simp
 have h3:atI (Zam l l.length) i=Zbu l (Zam l i) i x:=by unfold atI;rw [toNat_natCast,h2];rfl
 rw [h3] at h1
 have h4:okK (Zam l i) i x=true:=by
  cases h:okK (Zam l i) i x
  ·unfold Zbu at h1;rw [h] at h1;exact absurd rfl h1
  ·rfl
 have hT:Zlj l x (kS (Zam l i) x):=Zgh hG hx (fun j a b hj ha hb=>Zej hG i j a b ha hb) (by rw [ZaK];exact le_refl _) h4
 have hns:nsM l x (kS (Zam l i) x)≠0:=by unfold Zbu at h1;rw [h4] at h1;exact h1
 have he:=hT.ns
 generalize kS (Zam l i) x=k at *
 have hk:=hT.hk
 have hl:=hT.hl
 have himm:Zfk x.1 x.2.1=true:=by
  cases hb:Zfk x.1 x.2.1
  ·have ht:Z56 l x k true=some 0:=rfl
   have:F64 l x k=some 0:=by
    have h:Ret (F64 l x k) fun a=>a=0:=by
     simp only [F64,ZAR,ZAM,hb,ht,wq,reduceCtorEq]
     repeat' first | apply And.intro | intro _ | trivial
    exact h.eq
   rw [this] at he
   exact absurd (inj he).symm hns
  ·rfl
 unfold Zfk at himm
 rw [decide_eq_true_eq] at himm
 refine ⟨fun e=>?_,fun e=>?_,fun e=>?_⟩
 ·rw [e] at himm
  simp at himm
  omega
 ·rw [e] at himm
  simp at himm
  omega
 ·rw [e] at himm
  simp at himm
  refine ⟨by omega,by omega,?_⟩
  obtain ⟨op,imm,ks⟩:=x
  dsimp only at e hk
  subst e
  by_cases c:k.length % 2=0\/k.length < 3\/33 < k.length
  ·have:=(ZhT l imm ks k hk hl c).2
   rw [this] at he
   exact absurd (inj he).symm hns
  ·exact ⟨k.length / 2,by dsimp only;omega,by omega,by omega⟩
theorem Zer {l:List Zae} (hG:GraphH l) (hg:Zex l l.length) {i:Nat} {x:Zae} (hx:l[i]?=some x):(x.1=3->0<=x.2.1/\x.2.1 < 256)/\(x.1=31->0<=x.2.1/\x.2.1 < 16/\∃ m:Nat,x.2.2.length=2 * m+1/\1<=m/\m<=16):=(Zhh hG hg hx).2
theorem ZAN (l:List Zae) (h:GraphH l) (i:Int):F81 l i=some (ZfU (Zam l l.length) i):=by
 refine Ret.eq ?_
 have hn:=h.n
 have hsl:=ZaK l l.length
 simp only [F81,ZuL,wq,reduceCtorEq]
 refine ⟨fun h=>?_,fun h0=>⟨fun h=>?_,fun h1=>?_⟩⟩
 ·unfold ZfU;rw [if_neg (fun e=>by have:=e.1;omega)]
 ·unfold ZfU;rw [if_neg (fun e=>by have:=e.2;omega)]
 ·have hw:wrap .i64 (i+1)=i+1:=Zau (by omega) (by omega)
  obtain ⟨j,rfl⟩:∃ j:Nat,i=j:=⟨i.toNat,by omega⟩
  have hs:slI l 0 ((j:Int)+1)=l.take (j+1):=by
   unfold slI
   have e1:(((j:Int)+1).toNat - (0:Int).toNat)=j+1:=by omega
   simp only [e1,Int.toNat_zero,List.drop_zero]
   simp
  have hlt:(l.take (j+1)).length=j+1:=by rw [length_take];omega
  rw [hw,hs,Zzi _ (h.take _),hlt,ZeA l (j+1) (j+1) (le_refl _)]
  simp only [wq,reduceCtorEq]
  have hg:gI (Zam l (j+1)) (j:Int)=some (atI (Zam l l.length) (j:Int)):=by
   rw [Zax,<-Zek l j l.length (by omega),Zdy l l.length j (by omega)]
  refine ⟨fun _=>?_,fun h=>absurd h (by omega)⟩
  rw [hg,ZaH]
  unfold ZfU;rw [if_pos ⟨by omega,by omega⟩]
theorem Z83 {l:List Zae} (h:GraphH l) (n:Int):Ret (F82 l n) fun r=>(r=0/\∀ y∈l,y.1=31->y.2.1≠n)\/∃ y∈l,y.1=31/\y.2.1=n/\r=((y.2.2.length / 2:Nat):Int):=by
 have hn:=h.n
 unfold F82
 refine Zac (fun i:Int=>∃ m:Nat,i=m/\m<=l.length/\∀ y∈l.take m,y.1=31->y.2.1≠n) (fun i=>l.length - i.toNat) ?_ _ ⟨0,rfl,by omega,fun y hy=>by simp at hy⟩
 rintro _ ⟨m,rfl,hm,ih⟩
 have hw:=Zab m (by omega)
 simp only [ZxX,ZxY,wq,reduceCtorEq,hw]
 refine ⟨fun hlt=>Zaj (by omega) hlt fun y hy hym=>?_,fun hge=>.inl fun y hy=>?_⟩
 ·have hkl:=h.k y hym
  have hd:tdiv (y.2.2.length:Int) 2=((y.2.2.length / 2:Nat):Int):=by rw [Int.tdiv_eq_ediv_of_nonneg (by omega)];rfl
  simp only [Za4 hy,hd]
  rw [Zax] at hy
  have next:(y.1=31->y.2.1≠n)->(∃ m':Nat,((m+1:Nat):Int)=m'/\m'<=l.length/\∀ y∈l.take m',y.1=31->y.2.1≠n):=fun hh=>by
   refine ⟨m+1,rfl,by omega,fun z hz=>?_⟩
   rw [take_add_one,hy] at hz
   rcases mem_append.1 hz with hz | hz
   ·exact ih z hz
   ·rw [show z=y by simpa using hz];exact hh
  refine ⟨fun e=>⟨fun e2=>.inr ⟨y,hym,e,e2,Zau (by omega) (by omega)⟩,fun e2=>⟨next fun _=>e2,by omega⟩⟩,fun e=>⟨next fun h=>absurd h e,by omega⟩⟩
 ·rw [take_of_length_le (by omega)] at ih
  exact ih y hy
structure Z1G (l:List Zae) (m:Nat) (out:List (List Bool)):Prop where
 len:out.length=m
 row:∀ (i:Nat) r,out[i]?=some r->r.length=16/\∀ j:Int,0<=j->j < 16->(ZaJ r j=true↔Dp l i j)
def DpK (l:List Zae) (x:Zae) (k:Nat) (b:Int) (j:Int):Prop:=∃ t q:Nat,x.2.2[t]?=some (q:Int)/\Dp l q j/\(x.1≠31\/j≠x.2.1\/t < x.2.2.length / 2)/\(t < k\/t=k/\j < b)
theorem ZAH {l:List Zae} (hG:GraphH l) (hg:Zex l l.length):Ret (F83 l) (Z1G l l.length):=by
 have hn:=hG.n
 unfold F83
 refine Zac (fun q:Int×List (List Bool)=>∃ m:Nat,q.1=m/\m<=l.length/\Z1G l m q.2) (fun q=>l.length - q.1.toNat) ?_ _ ⟨0,rfl,by omega,rfl,fun i r h=>by simp at h⟩
 rintro ⟨_,out⟩ ⟨m,rfl,hm,hD⟩
 dsimp only at hD
 have hw:=Zab m (by omega)
 have hD1:=hD.len
 simp only [ZDI,wq,reduceCtorEq]
 refine ⟨fun hlt=>⟨fun _=>?_,fun h=>absurd h (by omega)⟩,fun hge=>?_⟩
 ·have hml:m < l.length:=by omega
  refine Zaj (by omega) hlt fun x hx hxm=>?_
  rw [Zax] at hx
  have hkb:=ZeD hg hx
  have hkl:=hG.k x hxm
  have hd:tdiv (x.2.2.length:Int) 2=((x.2.2.length / 2:Nat):Int):=by rw [Int.tdiv_eq_ediv_of_nonneg (by omega)];rfl
  have hd2:wrap .i64 ((x.2.2.length / 2:Nat):Int)=((x.2.2.length / 2:Nat):Int):=Zau (by omega) (by omega)
  refine Zac (fun q:Int×List (List Bool)×List Bool=>∃ k:Nat,q.1=k/\k<=x.2.2.length/\q.2.1=out/\q.2.2.length=16/\∀ j:Int,0<=j->j < 16->(ZaJ q.2.2 j=true↔DpK l x k 0 j)) (fun q=>x.2.2.length - q.1.toNat) ?_ _ ⟨0,rfl,by omega,rfl,by simp,fun j h0 h1=>by
   rw [Zeq]
   refine ⟨fun h=>by (cases h),?_⟩
   rintro ⟨t,q,_,_,_,h | h⟩
   ·omega
   ·omega⟩
  rintro ⟨_,out2,h⟩ ⟨k,rfl,hk,eo,hl16,hH⟩
  dsimp only at hl16 hH eo
  subst out2
  have hw2:=Zab k (by omega)
  simp only [ZDH,Zyf,wq,reduceCtorEq]
  refine ⟨fun hlt2=>?_,fun hge2=>?_⟩
  ·refine Zac (fun q:Int×List (List Bool)×List Bool=>∃ b:Nat,q.1=b/\b<=16/\q.2.1=out/\q.2.2.length=16/\∀ j:Int,0<=j->j < 16->(ZaJ q.2.2 j=true↔DpK l x k b j)) (fun q=>16 - q.1.toNat) ?_ _ ⟨0,rfl,by omega,rfl,hl16,hH⟩
   rintro ⟨_,out2,h⟩ ⟨b,rfl,hb,eo,hl16,hH⟩
   dsimp only at hl16 hH eo
   subst out2
   have hw3:=Zab b (by omega)
   simp only [ZDG,Zyh,Zyg,wq,reduceCtorEq,hw2,hw3,hd,hd2]
   refine ⟨fun hlt3=>Zaj (by omega) hlt2 fun y hy hym=>?_,fun hge3=>⟨⟨k+1,rfl,by omega,hl16,fun j h0 h1=>(hH j h0 h1).trans ?_⟩,by omega⟩⟩
   ·obtain ⟨q,rfl⟩:∃ q:Nat,y=q:=⟨y.toNat,by have:=(hkb y hym).1;omega⟩
    have hqm:q < m:=by have:=(hkb _ hym).2;omega
    refine Zaj (by omega) (by omega) fun r hr hrm=>?_
    simp only [Za4 hr]
    rw [Zax] at hy hr
    obtain ⟨r16,hrj⟩:=hD.row q r hr
    have hbr:inR r.length (b:Int):=⟨by omega,by omega⟩
    have hbh:inR h.length (b:Int):=⟨by omega,by omega⟩
    have hrb:=hrj b (by omega) (by omega)
    rw [Zbj hbr]
    have keep:(Dp l q b->¬ (x.1≠31\/(b:Int)≠x.2.1\/k < x.2.2.length / 2))->∃ b':Nat,((b+1:Nat):Int)=b'/\b'<=16/\h.length=16/\∀ j:Int,0<=j->j < 16->(ZaJ h j=true↔DpK l x k b' j):=fun hno=>by
     refine ⟨b+1,rfl,by omega,hl16,fun j h0 h1=>(hH j h0 h1).trans ⟨?_,?_⟩⟩
     ·rintro ⟨t,q',e1,e2,e3,e4⟩
      exact ⟨t,q',e1,e2,e3,by omega⟩
     ·rintro ⟨t,q',e1,e2,e3,e4⟩
      refine ⟨t,q',e1,e2,e3,?_⟩
      by_cases e5:t=k/\j=b
      ·obtain ⟨rfl,rfl⟩:=e5
       rw [hy] at e1
       have:q=q':=by have:=inj e1;omega
       subst this
       exact absurd e3 (hno e2)
      ·omega
    have set:Dp l q b->(x.1≠31\/(b:Int)≠x.2.1\/k < x.2.2.length / 2)->∃ b':Nat,((b+1:Nat):Int)=b'/\b'<=16/\(Zaq h (b:Int) true).length=16/\∀ j:Int,0<=j->j < 16->(ZaJ (Zaq h (b:Int) true) j=true↔DpK l x k b' j):=fun h1 h2=>by
     refine ⟨b+1,rfl,by omega,by rw [Zay];exact hl16,fun j h0 h1'=>?_⟩
     rw [ZaN hbh h0]
     split
     ·subst ‹j=_›
      exact ⟨fun _=>⟨k,q,hy,h1,h2,.inr ⟨rfl,by omega⟩⟩,fun _=>rfl⟩
     ·refine (hH j h0 h1').trans ⟨?_,?_⟩
      ·rintro ⟨t,q',e1,e2,e3,e4⟩
       exact ⟨t,q',e1,e2,e3,by omega⟩
      ·rintro ⟨t,q',e1,e2,e3,e4⟩
       exact ⟨t,q',e1,e2,e3,by omega⟩
    simp only [wq,reduceCtorEq,Zbj hbh]
    refine ⟨fun e1=>⟨fun e2=>⟨set (hrb.1 e1) (.inl e2),by omega⟩,fun e2=>⟨fun e3=>⟨set (hrb.1 e1) (.inr (.inl e3)),by omega⟩,fun e3=>⟨fun e4=>⟨set (hrb.1 e1) (.inr (.inr (by omega))),by omega⟩,fun e4=>⟨keep fun _=>by omega,by omega⟩⟩⟩⟩,fun e1=>⟨keep fun e=>(by rw [hrb.2 e] at e1;cases e1),by omega⟩⟩
   ·have:b=16:=by omega
    subst this
    constructor
    ·rintro ⟨t,q',e1,e2,e3,e4⟩
     exact ⟨t,q',e1,e2,e3,by omega⟩
    ·rintro ⟨t,q',e1,e2,e3,e4⟩
     exact ⟨t,q',e1,e2,e3,by omega⟩
  ·have hkk:k=x.2.2.length:=by omega
   have hlast:∀ h':List Bool,h'.length=16->(∀ j:Int,0<=j->j < 16->(ZaJ h' j=true↔Dp l m j))->(out.length+([h']:List (List Bool)).length<=1000000->(∃ m':Nat,wrap .i64 ((m:Int)+1)=m'/\m'<=l.length/\Z1G l m' (out++[h']))/\l.length - (wrap .i64 ((m:Int)+1)).toNat < l.length - ((m:Int)).toNat):=fun h' hl' hj' _=>by
    rw [hw]
    refine ⟨⟨m+1,rfl,by omega,by simp;omega,fun i r hr=>?_⟩,by omega⟩
    by_cases e:i < m
    ·rw [List.getElem?_append_left (by omega)] at hr;exact hD.row i r hr
    ·have:i=m:=by have:=ZaA hr;simp at this;omega
     subst this
     rw [List.getElem?_append_right (by omega),hD1] at hr
     simp at hr
     rw [<-hr];exact ⟨hl',hj'⟩
   have hdp:∀ j,DpK l x k 0 j↔∃ t q:Nat,x.2.2[t]?=some (q:Int)/\Dp l q j/\(x.1≠31\/j≠x.2.1\/t < x.2.2.length / 2):=fun j=>by
    constructor
    ·rintro ⟨t,q,e1,e2,e3,_⟩;exact ⟨t,q,e1,e2,e3⟩
    ·rintro ⟨t,q,e1,e2,e3⟩;exact ⟨t,q,e1,e2,e3,.inl (by have:=ZaA e1;omega)⟩
   refine ⟨fun e=>?_,fun e=>⟨fun hh=>hlast _ hl16 (fun j h0 h1=>?_) hh,fun h=>absurd h (by simp only [length_cons,length_nil];omega)⟩⟩
   ·obtain ⟨i0,i1⟩:=(Zer hG hg hx).1 e
    have hq:tdiv x.2.1 16=((x.2.1.toNat / 16:Nat):Int):=by
     obtain ⟨a,ha⟩:∃ a:Nat,x.2.1=a:=⟨x.2.1.toNat,by omega⟩
     rw [ha,Int.tdiv_eq_ediv_of_nonneg (by omega)];rfl
    have hqb:x.2.1.toNat / 16 < 16:=by omega
    have hwq:wrap .i64 (tdiv x.2.1 16)=tdiv x.2.1 16:=by rw [hq];exact Zau (by omega) (by omega)
    have hbh:inR h.length (tdiv x.2.1 16):=by rw [hl16,hq];exact ⟨by omega,by omega⟩
    simp only [hwq,Zbj hbh,wq,reduceCtorEq]
    refine ⟨fun hh=>hlast _ (by rw [Zay];exact hl16) (fun j h0 h1=>?_) hh,fun h=>absurd h (by simp only [length_cons,length_nil];omega)⟩
    rw [ZaN hbh h0]
    split
    ·subst ‹j=_›
     exact ⟨fun _=>.var hx e,fun _=>rfl⟩
    ·rename_i hne
     rw [hH j h0 h1,hdp]
     constructor
     ·rintro ⟨t,q,e1,e2,e3⟩;exact .kid hx e1 e2 e3
     ·intro hd
      rcases hd.inv hx with ⟨_,h⟩ | h
      ·exact absurd h hne
      ·exact h
   ·rw [hH j h0 h1,hdp]
    constructor
    ·rintro ⟨t,q,e1,e2,e3⟩;exact .kid hx e1 e2 e3
    ·intro hd
     rcases hd.inv hx with ⟨h,_⟩ | h
     ·exact absurd h e
     ·exact h
 ·have:m=l.length:=by omega
  subst this
  exact hD
theorem Zfe {l:List Int} {i:Int} (h:ZfU l i≠0):inR l.length i:=by
 unfold ZfU at h
 split at h
 ·assumption
 ·exact absurd rfl h
theorem ZBe (g:GrT) (hG:GraphH g.2.2.1):F63 g=some (wfB g):=by
 refine Ret.eq ?_
 have hn:=hG.n
 have hsl:=ZaK g.2.2.1 g.2.2.1.length
 simp only [F63,ZtG _ hG,ZAN _ hG,Z52,wq,reduceCtorEq]
 refine ⟨fun e=>Zbx fun w=>by (rw [Zc5 w.good] at e;cases e),fun e=>⟨fun e1=>Zbx fun w=>e1 w.va,fun e1=>⟨fun e2=>Zbx fun w=>e2 w.st,fun e2=>?_⟩⟩⟩
 have hg:Zex g.2.2.1 g.2.2.1.length:=by unfold ZeX at e;simpa using e
 have rv:inR g.2.2.1.length g.2.2.2.1:=by have:=Zfe (l:=Zam g.2.2.1 g.2.2.1.length) (i:=g.2.2.2.1) (by omega);rwa [hsl] at this
 have rs:inR g.2.2.1.length g.2.2.2.2:=by have:=Zfe (l:=Zam g.2.2.1 g.2.2.1.length) (i:=g.2.2.2.2) (by omega);rwa [hsl] at this
 refine Zac (fun i:Int=>∃ m:Nat,i=m/\m<=g.2.2.1.length/\(∀ i k:Nat,i < m->k < i->∀ x y,g.2.2.1[i]?=some x->g.2.2.1[k]?=some y->x.1=31->y.1=31->y.2.1≠x.2.1)/\(∀ x∈g.2.2.1.take m,x.1=3->(∀ y∈g.2.2.1,y.1=31->y.2.1≠tdiv x.2.1 16)\/∃ y∈g.2.2.1,y.1=31/\y.2.1=tdiv x.2.1 16/\tmod x.2.1 16 < ((y.2.2.length / 2:Nat):Int))) (fun i=>g.2.2.1.length - i.toNat) ?_ _ ⟨0,rfl,by omega,(fun i k h=>by omega),fun x hx=>by simp at hx⟩
 rintro _ ⟨m,rfl,hm,hlp,hlv⟩
 have hw:=Zab m (by omega)
 simp only [Z54,Z53,wq,reduceCtorEq,hw]
 refine ⟨fun hlt=>Zaj (by omega) hlt fun x hx hxm=>?_,fun hge=>?_⟩
 ·rw [Zax] at hx
  refine Zac (fun k:Int=>∃ j:Nat,k=j/\j<=m/\(x.1=31->∀ p < j,∀ y,g.2.2.1[p]?=some y->y.1=31->y.2.1≠x.2.1)) (fun k=>m - k.toNat) ?_ _ ⟨0,rfl,by omega,fun _ p hp=>by omega⟩
  rintro _ ⟨j,rfl,hj,hd⟩
  have hw2:=Zab j (by omega)
  have fin:(x.1=31->∀ p < m,∀ y,g.2.2.1[p]?=some y->y.1=31->y.2.1≠x.2.1)->(x.1=3->(∀ y∈g.2.2.1,y.1=31->y.2.1≠tdiv x.2.1 16)\/∃ y∈g.2.2.1,y.1=31/\y.2.1=tdiv x.2.1 16/\tmod x.2.1 16 < ((y.2.2.length / 2:Nat):Int))->∃ m':Nat,((m+1:Nat):Int)=m'/\m'<=g.2.2.1.length/\(∀ i k:Nat,i < m'->k < i->∀ x y,g.2.2.1[i]?=some x->g.2.2.1[k]?=some y->x.1=31->y.1=31->y.2.1≠x.2.1)/\(∀ x∈g.2.2.1.take m',x.1=3->(∀ y∈g.2.2.1,y.1=31->y.2.1≠tdiv x.2.1 16)\/∃ y∈g.2.2.1,y.1=31/\y.2.1=tdiv x.2.1 16/\tmod x.2.1 16 < ((y.2.2.length / 2:Nat):Int)):=fun h1 h2=>by
   refine ⟨m+1,rfl,by omega,fun i k hi hk x' y' hx' hy'=>?_,fun x' hx'=>?_⟩
   ·by_cases e:i < m
    ·exact hlp i k e hk x' y' hx' hy'
    ·have:i=m:=by omega
     subst this
     rw [hx] at hx';obtain rfl:=inj hx'
     exact fun e1 e2=>h1 e1 k hk y' hy' e2
   ·rw [take_add_one,hx] at hx'
    rcases mem_append.1 hx' with hx' | hx'
    ·exact hlv x' hx'
    ·rw [show x'=x by simpa using hx'];exact h2
  simp only [ZA1,Z53,Z55,ZAz,ZA0,wq,reduceCtorEq,hw,hw2]
  -- behind the loops before it
  have tail:(x.1=31->∀ p < m,∀ y,g.2.2.1[p]?=some y->y.1=31->y.2.1≠x.2.1)->x.1=3->Ret (F82 g.2.2.1 (wrap .i64 (tdiv x.2.1 16))) fun a=>(0 < a->(a<=tmod x.2.1 16->false=wfB g)/\(tmod x.2.1 16 < a->(∃ m':Nat,((m+1:Nat):Int)=m'/\m'<=g.2.2.1.length/\(∀ i k:Nat,i < m'->k < i->∀ x y,g.2.2.1[i]?=some x->g.2.2.1[k]?=some y->x.1=31->y.1=31->y.2.1≠x.2.1)/\(∀ x∈g.2.2.1.take m',x.1=3->(∀ y∈g.2.2.1,y.1=31->y.2.1≠tdiv x.2.1 16)\/∃ y∈g.2.2.1,y.1=31/\y.2.1=tdiv x.2.1 16/\tmod x.2.1 16 < ((y.2.2.length / 2:Nat):Int)))/\g.2.2.1.length - ((m+1:Nat):Int).toNat < g.2.2.1.length - ((m:Int)).toNat))/\(a<=0->(∃ m':Nat,((m+1:Nat):Int)=m'/\m'<=g.2.2.1.length/\(∀ i k:Nat,i < m'->k < i->∀ x y,g.2.2.1[i]?=some x->g.2.2.1[k]?=some y->x.1=31->y.1=31->y.2.1≠x.2.1)/\(∀ x∈g.2.2.1.take m',x.1=3->(∀ y∈g.2.2.1,y.1=31->y.2.1≠tdiv x.2.1 16)\/∃ y∈g.2.2.1,y.1=31/\y.2.1=tdiv x.2.1 16/\tmod x.2.1 16 < ((y.2.2.length / 2:Nat):Int)))/\g.2.2.1.length - ((m+1:Nat):Int).toNat < g.2.2.1.length - ((m:Int)).toNat):=fun hall e3=>by
   obtain ⟨i0,i1⟩:=(Zer hG hg hx).1 e3
   have hq:tdiv x.2.1 16=((x.2.1.toNat / 16:Nat):Int):=by
    obtain ⟨a,ha⟩:∃ a:Nat,x.2.1=a:=⟨x.2.1.toNat,by omega⟩
    rw [ha,Int.tdiv_eq_ediv_of_nonneg (by omega)];rfl
   have hwq:wrap .i64 (tdiv x.2.1 16)=tdiv x.2.1 16:=by rw [hq];exact Zau (by omega) (by omega)
   rw [hwq]
   refine (Z83 hG _).mono fun a _ ha=>⟨fun h0=>⟨fun h1=>?_,fun h1=>⟨fin hall fun _=>?_,by omega⟩⟩,fun h0=>⟨fin hall fun _=>?_,by omega⟩⟩
   ·rcases ha with ⟨rfl,_⟩ | ⟨y,hy,y1,y2,rfl⟩
    ·omega
    ·exact Zbx fun w=>by have:=w.lv x hxm e3 y hy y1 y2;omega
   ·rcases ha with ⟨rfl,_⟩ | ⟨y,hy,y1,y2,rfl⟩
    ·omega
    ·exact .inr ⟨y,hy,y1,y2,h1⟩
   ·rcases ha with ⟨rfl,hno⟩ | ⟨y,hy,y1,y2,rfl⟩
    ·exact .inl hno
    ·obtain ⟨j,hj⟩:=getElem?_of_mem hy
     obtain ⟨_,_,mm,h3,h4,h5⟩:=(Zer hG hg hj).2 y1
     omega
  refine ⟨fun hlt2=>⟨fun e31=>Zaj (by omega) (by omega) fun y hy hym=>?_,fun e31=>⟨fun e3=>tail (fun h=>absurd h e31) e3,fun e3=>⟨fin (fun h=>absurd h e31) fun h=>absurd h e3,by omega⟩⟩⟩,fun hge2=>⟨fun e3=>tail (fun h=>by omega) e3,fun e3=>⟨fin (fun h=>?_) fun h=>absurd h e3,by omega⟩⟩⟩
  ·simp only [Za4 hy,wq,reduceCtorEq]
   rw [Zax] at hy
   have nx:(y.1=31->y.2.1≠x.2.1)->∃ j':Nat,((j+1:Nat):Int)=j'/\j'<=m/\(x.1=31->∀ p < j',∀ y,g.2.2.1[p]?=some y->y.1=31->y.2.1≠x.2.1):=fun hh=>by
    refine ⟨j+1,rfl,by omega,fun h p hp z hz=>?_⟩
    by_cases e:p < j
    ·exact hd h p e z hz
    ·have:p=j:=by omega
     subst this
     rw [hy] at hz;obtain rfl:=inj hz;exact hh
   refine ⟨fun y31=>⟨fun e=>Zbx fun w=>w.lp m j (by omega) x y hx hy e31 y31 e,fun e=>⟨nx fun _=>e,by omega⟩⟩,fun y31=>⟨nx fun h=>absurd h y31,by omega⟩⟩
  ·have:j=m:=by omega
   subst this
   exact hd h
 ·have hlv':∀ x∈g.2.2.1,x.1=3->∀ y∈g.2.2.1,y.1=31->y.2.1=tdiv x.2.1 16->tmod x.2.1 16 < ((y.2.2.length / 2:Nat):Int):=by
   rw [take_of_length_le (by omega)] at hlv
   intro x hx e3 y hy e31 e
   rcases hlv x hx e3 with h | ⟨z,hz,z1,z2,z3⟩
   ·exact absurd e (h y hy e31)
   ·obtain ⟨a,ha⟩:=getElem?_of_mem hy
    obtain ⟨b,hb⟩:=getElem?_of_mem hz
    have hab:a=b:=by
     rcases Nat.lt_trichotomy a b with h | h | h
     ·exact absurd (by rw [e,z2]) (hlp b a (by have:=ZaA hb;omega) h z y hb ha z1 e31)
     ·exact h
     ·exact absurd (by rw [e,z2]) (hlp a b (by have:=ZaA ha;omega) h y z ha hb e31 z1)
    subst hab
    rw [ha] at hb
    obtain rfl:=inj hb
    exact z3
  have hlp':∀ i k:Nat,k < i->∀ x y,g.2.2.1[i]?=some x->g.2.2.1[k]?=some y->x.1=31->y.1=31->y.2.1≠x.2.1:=fun i k hk x y hx hy=>hlp i k (by have:=ZaA hx;omega) hk x y hx hy
  refine (ZAH hG hg).mono fun out _ hD=>?_
  have hol:=hD.len
  refine Zac (fun j:Int=>∃ b:Nat,j=b/\b<=16/\∀ j:Int,0<=j->j < b->¬ Dp g.2.2.1 g.2.2.2.1.toNat j/\¬ Dp g.2.2.1 g.2.2.2.2.toNat j) (fun j=>16 - j.toNat) ?_ _ ⟨0,rfl,by omega,fun j h0 h1=>by omega⟩
  rintro _ ⟨b,rfl,hb,hN⟩
  have hw2:=Zab b (by omega)
  simp only [ZA3,ZA2,wq,reduceCtorEq,hw2]
  refine ⟨fun hlt=>Zaj rv.1 (by have:=rv.2;omega) fun r hr _=>?_,fun hge=>Zst ⟨hg,e1,e2,hlp',hlv',fun j h0 h1=>hN j h0 (by omega)⟩⟩
  have hr':=(ZaI hr).2.2
  obtain ⟨r16,hrj⟩:=hD.row _ _ hr'
  have hrb:inR r.length (b:Int):=⟨by omega,by omega⟩
  rw [Zbj hrb]
  simp only [wq,reduceCtorEq]
  have hb1:=hrj b (by omega) (by omega)
  refine ⟨fun e=>Zbx fun w=>(w.dp b (by omega) (by omega)).1 (hb1.1 e),fun e=>Zaj rs.1 (by have:=rs.2;omega) fun r2 hr2 _=>?_⟩
  have hr2':=(ZaI hr2).2.2
  obtain ⟨r16',hrj'⟩:=hD.row _ _ hr2'
  have hrb':inR r2.length (b:Int):=⟨by omega,by omega⟩
  rw [Zbj hrb']
  simp only [wq,reduceCtorEq]
  have hb2:=hrj' b (by omega) (by omega)
  refine ⟨fun e4=>Zbx fun w=>(w.dp b (by omega) (by omega)).2 (hb2.1 e4),fun e4=>⟨⟨b+1,rfl,by omega,fun j h0 h1=>?_⟩,by omega⟩⟩
  by_cases h:j < b
  ·exact hN j h0 h
  ·obtain rfl:j=b:=by omega
   exact ⟨fun d=>(by rw [hb1.2 d] at e;cases e),fun d=>(by rw [hb2.2 d] at e4;cases e4)⟩
structure PoR (s:Za5) (ch vs:List Int):Prop extends VsI s ch vs where
 po:PoL s ch [atI (Zai s) s.2.2.2.1,atI (Zai s) s.2.2.2.2.1] [] vs
 va:atI (Zai s) s.2.2.2.1∈vs
 st:atI (Zai s) s.2.2.2.2.1∈vs
 len:vs.length<=s.1.length
def grS (s:Za5) (ch vs:List Int):GrT:=(empty,Zig s ch vs,vs.map (Zjp s ch vs),ZdD vs (atI (Zai s) s.2.2.2.1),ZdD vs (atI (Zai s) s.2.2.2.2.1))
def noG:GrT:=(empty,0,[],0,0)
def Zq0 (s:Za5) (ch:List Int) (r:GrT×Bool):Prop:=(Zqx s ch/\r=(noG,false))\/∃ vs,PoR s ch vs/\r=bif wfB (grS s ch vs) then (grS s ch vs,true) else (noG,false)
theorem Zgl (n:Nat) (x:Int) {q:Int} (h:inR n q):atI (replicate n x) q=x:=by
 have h1:=h.1;have h2:=h.2
 unfold atI
 rw [List.getElem?_replicate,if_pos (by omega)];rfl
section
variable {s:Za5} (X:Ctx s) {ch:List Int} (hs:Zdi s ch)
include X hs
theorem Zz0 {vs:List Int} (h:PoR s ch vs):ZhX (grS s ch vs).2.2.1:=by
 have hn:=X.n
 have hl:=h.len
 refine ⟨⟨by simp [grS];omega,fun x hx=>?_⟩,fun x hx=>?_⟩
 ·obtain ⟨q,hq,rfl⟩:=mem_map.1 hx
  obtain ⟨a,b,_⟩:=h.sel q hq
  have:=X.kids.k _ (Zav (Zf4 X hs a.1 b))
  simp only [Zjp,length_map]
  rw [Zbw X];exact this
 ·obtain ⟨q,hq,rfl⟩:=mem_map.1 hx
  obtain ⟨a,b,_⟩:=h.sel q hq
  obtain ⟨w1,w2,w3,w4⟩:=X.kids.w _ (Zav (Zf4 X hs a.1 b))
  refine ⟨w1,w2,?_,fun y hy=>?_⟩
  ·simp only [Zjp,length_map];rw [Zbw X];exact w3
  ·obtain ⟨p,hp,rfl⟩:=mem_map.1 hy
   unfold ZdD
   have:=List.idxOf_le_length (a:=p) (l:=vs)
   constructor<;>omega
theorem ZBi:Ret (F37 (Zcg s) ch) (Zq0 s ch):=by
 have hn:=X.n
 have hcl:=hs.1
 simp only [F37,Zzx X,ZmP.2 hs,wq,reduceCtorEq]
 simp only [Zcg,hcl,toNat_natCast,wq,reduceCtorEq]
 refine ⟨fun _=>?_,fun h=>absurd h (by omega)⟩
 refine Zac (fun q=>∃ k:Nat,k<=s.1.length/\q=((k:Int),empty,0,0,0,s.1,s.2.1,s.2.2.1,s.2.2.2.1,s.2.2.2.2.1,s.2.2.2.2.2.1,s.2.2.2.2.2.2,Zai s,Zaz s,ch,empty,0,0,0,false,replicate k (-1)++replicate (s.1.length - k) 0)) (fun q=>s.1.length - q.1.toNat) ?_ _ ⟨0,by omega,by simp⟩
 rintro _ ⟨k,hk,rfl⟩
 have hw:=Zab k (by omega)
 simp only [Zxl,wq,reduceCtorEq,hcl,hw]
 have hlen:(replicate k (-1:Int)++replicate (s.1.length - k) 0).length=s.1.length:=by simp;omega
 refine ⟨fun hlt=>?_,fun hge=>?_⟩
 ·rw [ZaB (l:=replicate k (-1:Int)++replicate (s.1.length - k) 0) (i:=(k:Int)) (by rw [hlen];exact ⟨by omega,hlt⟩)]
  simp only [wq,reduceCtorEq]
  refine ⟨⟨k+1,by omega,?_⟩,by omega⟩
  have e:s.1.length - k=(s.1.length - (k+1))+1:=by omega
  rw [Zcf,List.set_append_right _ _ (by simp),length_replicate,sub_self,e,List.replicate_succ,List.set_cons_zero,List.replicate_succ' (n:=k),append_assoc]
  rfl
 ·have hkn:k=s.1.length:=by omega
  subst hkn
  rw [sub_self,List.replicate_zero,append_nil]
  have hva:=X.v.va
  have hst:=X.v.st
  rw [X.cget hva]
  simp only [wq,reduceCtorEq]
  have B0:BR s ch (replicate s.1.length (-1)) [] []:=⟨⟨List.nodup_nil,fun q hq=>by cases hq⟩,by simp,fun q hq _=>.inl (Zgl _ _ hq),fun q hq=>(by cases hq),rfl⟩
  have hc0:Zjq (replicate s.1.length (-1))=s.1.length:=by unfold Zjq;simp
  have hv1:=Zhg X hs empty 0 0 1000 (atI (Zai s) s.2.2.2.1) .val _ [] [] B0 (fun q hq h=>by rw [Zgl _ _ hq] at h;omega) (by omega) (by simp only [length_nil];omega)
  refine Ret.mono (show Ret (F62 (atI (Zai s) s.2.2.2.1) s.1 s.2.1 s.2.2.1 s.2.2.2.1 s.2.2.2.2.1 s.2.2.2.2.2.1 s.2.2.2.2.2.2 (Zai s) (Zaz s) ch empty 0 0 0 false (replicate s.1.length (-1)) []) _ from hv1) fun o _ ⟨r,pr,bad,At,gn,eo,a1,a2,a3,a4⟩=>?_
  subst eo
  simp only [ZqC]
  rw [X.cget hst]
  simp only [wq,reduceCtorEq,length_nil] at a2 |-
  cases bad with
  | true=>
   have hv2:=Zk4 (s:=s) (ch:=ch) empty r 0 999 (atI (Zai s) s.2.2.2.2.1) pr At gn
   rw [show F62 (atI (Zai s) s.2.2.2.2.1) s.1 s.2.1 s.2.2.1 s.2.2.2.1 s.2.2.2.2.1 s.2.2.2.2.2.1 s.2.2.2.2.2.2 (Zai s) (Zaz s) ch empty pr r 0 true At gn=_ from hv2]
   simp only [wq,reduceCtorEq,ZqC,Z8S]
   exact .inl ⟨a3 rfl,rfl⟩
  | false=>
   obtain ⟨es,b1,b2,b3,b4,b5,b6,b7⟩:=a4 rfl
   rw [nil_append] at b1 b2 b3 b4 b5
   subst b4 b5
   have hv2:=Zhg X hs empty (ZdD es (atI (Zai s) s.2.2.2.1)) 0 1000 (atI (Zai s) s.2.2.2.2.1) .st At gn es b3 (fun q hq h=>by rw [b6 q hq,Zgl _ _ hq] at h;omega) (by omega) (by omega)
   refine Ret.mono (show Ret (F62 (atI (Zai s) s.2.2.2.2.1) s.1 s.2.1 s.2.2.1 s.2.2.2.1 s.2.2.2.2.1 s.2.2.2.2.2.1 s.2.2.2.2.2.2 (Zai s) (Zaz s) ch empty (Zig s ch es) (ZdD es (atI (Zai s) s.2.2.2.1)) 0 false At gn) _ from hv2) fun o _ ⟨r2,pr2,bad2,At2,gn2,eo,c1,c2,c3,c4⟩=>?_
   subst eo
   simp only [ZqC,Z8S]
   cases bad2 with
   | true=>
    simp only [wq,reduceCtorEq,cond_true]
    exact .inl ⟨c3 rfl,rfl⟩
   | false=>
    obtain ⟨es2,d1,d2,d3,d4,d5,d6,d7⟩:=c4 rfl
    subst d4 d5
    have hP:PoR s ch (es++es2):=⟨d3.toVsI,.cons b1 (.cons d1 .nil),mem_append_left _ b2,d2,by
     have:=d3.gn
     have:gn2.length=(es++es2).length:=by rw [this,length_map]
     omega⟩
    have eg:((empty,Zig s ch (es++es2),gn2,ZdD es (atI (Zai s) s.2.2.2.1),ZdD (es++es2) (atI (Zai s) s.2.2.2.2.1)):GrT)=grS s ch (es++es2):=by rw [d3.gn,<-Zd3 b2];rfl
    rw [eg,ZBe _ (Zz0 X hs hP).toGraphH]
    simp only [wq,reduceCtorEq,cond_false]
    have e2:=(Prod.mk.inj (Prod.mk.inj (Prod.mk.inj eg).2).2).1
    refine ⟨fun hb=>.inr ⟨_,hP,by rw [hb];rfl⟩,fun hb=>.inr ⟨_,hP,by rw [hb,<-eg];rfl⟩⟩
end
def Z4R (l:List Zae):Int:=(l.map ncM).sum
theorem Z5a (l:List Zae):0<=Z4R l/\Z4R l<=20 * l.length:=by
 induction l with
 | nil=>simp [Z4R]
 | cons x l ih=>
  have:=(ZCf x).2.2
  unfold Z4R at ih |-
  simp only [map_cons,sum_cons,length_cons]
  omega
theorem Z4O (l:List Zae) (x:Zae):Z4R (l++[x])=Z4R l+ncM x:=by simp [Z4R]
theorem ZCn {s:Za5} (h:ZmA s) (hn:s.1.length<=900) (ch:List Int):Ret (F18 s ch) fun r=>(¬ (ZcO s/\Zdi s ch)/\r=(noG,false))\/ZcO s/\Zdi s ch/\Zq0 s ch r:=by
 simp only [F18,ZCB s h,wq,reduceCtorEq]
 refine ⟨fun e=>.inl ⟨fun w=>by (rw [ZcH w.1] at e;cases e),rfl⟩,fun e=>?_⟩
 have X:Ctx s:=⟨h,Zel.1 e,hn⟩
 rw [ZDb h X.v]
 simp only [wq,reduceCtorEq]
 by_cases hs:Zdi s ch
 ·exact (ZBi X hs).mono fun r _ hr=>.inr ⟨X.v,hs,hr⟩
 ·have hb:ZqB s ch=false:=(Zep hs).symm
  simp only [F37,Zzx X,hb,wq,reduceCtorEq]
  exact .inl ⟨fun w=>hs w.2,rfl⟩
theorem Z4T {s:Za5} (hn:s.1.length<=900) {ch:List Int} {r:GrT×Bool} (h:(¬ (ZcO s/\Zdi s ch)/\r=(noG,false))\/ZcO s/\Zdi s ch/\Zq0 s ch r):r.1.2.2.1.length<=900:=by
 rcases h with ⟨_,rfl⟩ | ⟨_,_,⟨_,rfl⟩ | ⟨vs,hv,rfl⟩⟩
 ·simp [noG]
 ·simp [noG]
 ·have:=hv.len
  cases wfB (grS s ch vs)<;>simp [noG,grS]
  omega
theorem ZBv {s:Za5} (h:ZmA s) (hn:s.1.length<=900) (ch:List Int):Ret (F6 s ch) fun q=>∃ r,F18 s ch=some r/\((¬ (ZcO s/\Zdi s ch)/\r=(noG,false))\/ZcO s/\Zdi s ch/\Zq0 s ch r)/\q=(Z4R r.1.2.2.1,r.2):=by
 simp only [F6,wq,reduceCtorEq]
 refine (ZCn h hn ch).mono fun r er hr=>?_
 have hl:=Z4T hn hr
 refine Zac (fun q:Int×Int=>∃ k:Nat,k<=r.1.2.2.1.length/\q=(Z4R (r.1.2.2.1.take k),(k:Int))) (fun q=>r.1.2.2.1.length - q.2.toNat) ?_ _ ⟨0,by omega,by simp [Z4R]⟩
 rintro _ ⟨k,hk,rfl⟩
 have hw:=Zab k (by omega)
 simp only [ZER,wq,reduceCtorEq,hw]
 refine ⟨fun hlt=>Zaj (by omega) hlt fun x hx _=>?_,fun hge=>?_⟩
 ·rw [Zax] at hx
  have hb:=Z5a (r.1.2.2.1.take k)
  rw [length_take] at hb
  have hc:=(ZCf x).2.2
  simp only [(ZCf x).2.1,wq,reduceCtorEq]
  refine ⟨⟨k+1,by omega,?_⟩,by omega⟩
  rw [take_add_one,hx,Option.toList_some,Z4O,Zau (by omega) (by omega)]
 ·rw [take_of_length_le (by omega)]
  exact ⟨r,er,hr,rfl⟩
theorem Z6x (f:Int->Int):∀ (l:List Int) (a:Int),a∈l->(l.map f).sum=f a+((l.erase a).map f).sum
 | b::l,a,h=>by
  by_cases e:b=a
  ·subst e;simp
  ·rw [List.erase_cons_tail (by simpa using e)]
   have:=Z6x f l a (by rcases mem_cons.1 h with h | h;exact absurd h.symm e;exact h)
   simp only [map_cons,sum_cons]
   omega
theorem Z6v (f:Int->Int):∀ l:List Int,(∀ a∈l,0<=f a)->0<=(l.map f).sum
 | [],_=>by simp
 | a::l,h=>by
  have:=Z6v f l fun b hb=>h b (mem_cons_of_mem _ hb)
  have:=h a (by simp)
  simp only [map_cons,sum_cons]
  omega
theorem Z6y (f g:Int->Int):∀ (l r:List Int),l.Nodup->(∀ a∈l,a∈r/\f a<=g a)->(∀ a∈r,0<=g a)->(l.map f).sum<=(r.map g).sum
 | [],r,_,_,h=>by simpa using Z6v g r h
 | a::l,r,hd,hs,h=>by
  have h1:=hs a (by simp)
  rw [List.nodup_cons] at hd
  have:=Z6y f g l (r.erase a) hd.2 (fun b hb=>⟨by
   have h2:=(hs b (mem_cons_of_mem _ hb)).1
   exact (List.mem_erase_of_ne (fun e:b=a=>hd.1 (e▸hb))).2 h2,(hs b (mem_cons_of_mem _ hb)).2⟩) fun b hb=>h b (List.mem_of_mem_erase hb)
  rw [Z6x g r a h1.1]
  simp only [map_cons,sum_cons]
  omega
section
variable {s:Za5} (X:Ctx s) {a ch:List Int} (ha:Zdi s a) (hs:Zdi s ch) (hp:ZnF s a ch) {need:List Bool} (hN:Zbv s a need) {vs:List Int} (hv:PoR s ch vs)
include X ha hs hp hN hv
theorem Z6F {q:Int} (hq:q∈vs):ZaU s ch q=atI ch q:=by unfold ZaU;rw [if_pos (hv.sel q hq).2.1]
theorem Z6A {q:Int} (h:Zb7 s ch q):q∈vs:=by
 induction h with
 | val=>exact hv.va
 | st=>exact hv.st
 | step h1 h2 h3 ih=>
  obtain ⟨_,b,c⟩:=hv.sel _ ih
  have e:=Z6F X ha hs hp hN hv ih
  unfold ZfX at h2
  rw [if_pos (by omega),e] at h2
  exact (c _ h2).1
theorem Z6G {q:Int} (hq:inR s.1.length q) (h:ZaJ need q=true):q∈vs:=Z6A X ha hs hp hN hv (ZnG X ha hs hp ((hN.ok q hq).1 h))
theorem Z6B:(lbM s a need).2.2.1<=Z4R (grS s ch vs).2.2.1:=by
 rw [Z62 X]
 have e:Z60 s a need (ZaW (Zai s) s.1.length)=(((ZaW (Zai s) s.1.length).filter fun q=>ZaJ need q).map (Z6u s a)).sum:=by
  unfold Z60
  generalize ZaW (Zai s) s.1.length=l
  induction l with
  | nil=>rfl
  | cons q l ih=>
   simp only [map_cons,sum_cons,List.filter_cons]
   split
   ·rw [map_cons,sum_cons,ih]
   ·rw [ih];omega
 have e2:Z4R (grS s ch vs).2.2.1=(vs.map fun q=>ncM (Zjp s ch vs q)).sum:=by simp [Z4R,grS,Function.comp_def]
 rw [e,e2]
 refine Z6y _ _ _ _ ?_ (fun q hq=>?_) fun q hq=>(ZCf _).2.2.1
 ·refine List.Pairwise.filter _ ?_
  unfold ZaW
  refine List.Pairwise.filter _ ?_
  unfold idN
  exact List.Pairwise.map _ (fun a b hab=>by omega) (List.nodup_range (n:=s.1.length))
 ·rw [mem_filter] at hq
  have hr:=ZmT X hq.1
  have hm:=Z6G X ha hs hp hN hv hr.1 hq.2
  refine ⟨hm,?_⟩
  have h1:=Z66 X ha hs hp hr.1
  have h2:Z6u s ch q=ncM (Zjp s ch vs q):=by
   unfold Z6u
   have e:=Z6F X ha hs hp hN hv hm
   rw [if_pos (by rw [e];exact (hv.sel q hm).2.1),e]
   exact Z6z rfl
  omega
theorem ZBf:∀ (n:Nat) (q:Int),q∈vs->ZdD vs q < n->0<=ZaU s a q->Dn s a q
 | 0,q,_,h,_=>by have:=Zqz vs q;omega
 | n+1,q,hq,hlt,hd=>by
  obtain ⟨h1,h2,h3⟩:=hv.sel q hq
  obtain ⟨d1,d2⟩:=Zsp X ha hs hp h1.1 hd
  rw [Z6F X ha hs hp hN hv hq] at d2
  refine .mk fun p hpk hdp=>?_
  rw [Zif X d2] at hpk
  obtain ⟨p1,p2⟩:=h3 p hpk
  exact ZBf n p p1 (by omega) hdp
theorem Z7I:(lbM s a need).2.2.2=true:=by
 have:¬ Zwc s a need:=fun ⟨q,hA,hn⟩=>hn (ZBf X ha hs hp hN hv (vs.length+1) q (Z6G X ha hs hp hN hv hA.r hA.n) (by have:=Zqy (Z6G X ha hs hp hN hv hA.r hA.n);omega) hA.d)
 show (!ZtM s a need)=true
 rw [<-Zie this];rfl
end
theorem Zff (n:Nat) (q:Int):atI (replicate n 0) q=0:=by
 unfold atI
 cases h:(replicate n (0:Int))[q.toNat]? with
 | none=>rfl
 | some r=>exact (List.mem_replicate.1 (mem_of_getElem? h)).2
theorem Zz2 {a:Nat} (ha:a < 65536):(ofInt 32 (a:Int)).toNat=a:=by
 rw [BitVec.toNat_ofInt];omega
theorem Zk5 (b:BitVec 32):ZeM .u32 b=(b.toNat:Int):=by
 have:b.toNat < 4294967296:=b.isLt
 exact Zb1 (n:=((b.toNat:Nat):Int)) (by omega) (by omega)
theorem Z49 {a b:Nat} (ha:a < 65536) (hb:b < 65536):∃ c:Nat,ZeM .u32 (ofInt (IntKind.bits .u32) (a:Int) ||| ofInt (IntKind.bits .u32) (b:Int))=(c:Int)/\c < 65536/\∀ j,c.testBit j=(a.testBit j||b.testBit j):=by
 refine ⟨a ||| b,?_,Nat.or_lt_two_pow (n:=16) ha hb,fun j=>Nat.testBit_or a b j⟩
 rw [show ZeM .u32 (ofInt (IntKind.bits .u32) (a:Int) ||| ofInt (IntKind.bits .u32) (b:Int))=((ofInt 32 (a:Int) ||| ofInt 32 (b:Int)).toNat:Int) from Zk5 _,BitVec.toNat_or,Zz2 ha,Zz2 hb]
theorem Zz3 {i:Nat} (hi:i < 16):wrap .u32 (1 * 2 ^ (min (toNat (wrap .u64 (i:Int))) (IntKind.bits .u32)))=((2 ^ i:Nat):Int)/\2 ^ i < 65536:=by
 have h1:(2:Nat) ^ i < 2 ^ 16:=Nat.pow_lt_pow_right (by omega) hi
 have h2:min (toNat (wrap .u64 (i:Int))) (IntKind.bits .u32)=i:=by
  rw [Zdz (n:=(i:Int)) (by omega) (by omega)]
  show min (toNat (i:Int)) 32=i
  omega
 have h3:(1 * 2 ^ i:Int)=((2 ^ i:Nat):Int):=by rw [Int.one_mul];exact (Int.natCast_pow 2 i).symm
 refine ⟨?_,h1⟩
 rw [h2,h3]
 generalize 2 ^ i=p at h1
 exact Zb1 (by omega) (by omega)
theorem Zsu {a i:Nat} (ha:a < 65536) (hi:i < 16):∃ c:Nat,ZeM .u32 (ofInt (IntKind.bits .u32) (a:Int) &&& ~~~ (ofInt (IntKind.bits .u32) (wrap .u32 (1 * 2 ^ (min (toNat (wrap .u64 (i:Int))) (IntKind.bits .u32))))))=(c:Int)/\c < 65536/\∀ j,c.testBit j=(a.testBit j&&decide (j≠i)):=by
 obtain ⟨h1,h2⟩:=Zz3 hi
 rw [h1]
 refine ⟨(ofInt 32 (a:Int) &&& ~~~ (ofInt 32 ((2 ^ i:Nat):Int))).toNat,Zk5 _,?_,fun j=>?_⟩
 ·rw [BitVec.toNat_and,Zz2 ha]
  exact Nat.lt_of_le_of_lt Nat.and_le_left ha
 ·rw [testBit_toNat,BitVec.getLsbD_and,BitVec.getLsbD_not,<-testBit_toNat,<-testBit_toNat,Zz2 ha,Zz2 h2,Nat.testBit_two_pow]
  by_cases hj:j < 32
  ·by_cases e:i=j
   ·subst e;simp
   ·have:j≠i:=fun h=>e h.symm
    simp [hj,e,this]
  ·have:a.testBit j=false:=Nat.testBit_lt_two_pow (Nat.lt_of_lt_of_le ha (Nat.pow_le_pow_right (show 0 < 2 by omega) (show 16<=j by omega)))
   rw [this];simp
theorem Zfg {a:Nat} (ha:a < 65536):a=0↔∀ j:Nat,j < 16->a.testBit j=false:=by
 constructor
 ·rintro rfl j _;exact Nat.zero_testBit j
 ·intro h
  refine Nat.eq_of_testBit_eq fun j=>?_
  rw [Nat.zero_testBit]
  by_cases hj:j < 16
  ·exact h j hj
  ·exact Nat.testBit_lt_two_pow (Nat.lt_of_lt_of_le ha (Nat.pow_le_pow_right (show 0 < 2 by omega) (show 16<=j by omega)))
def Zq1 (v:Int) (P:Int->Prop):Prop:=∃ a:Nat,v=a/\a < 65536/\∀ j:Nat,j < 16->(a.testBit j=true↔P j)
theorem Zq1.congr {v:Int} {P R:Int->Prop} (h:Zq1 v P) (e:∀ j:Nat,j < 16->(P j↔R j)):Zq1 v R:=by
 obtain ⟨a,h1,h2,h3⟩:=h
 exact ⟨a,h1,h2,fun j hj=>(h3 j hj).trans (e j hj)⟩
theorem ZEL {l:List Zae} (hG:GraphH l) (hg:Zex l l.length):Ret (F75 l) fun out=>out.length=l.length/\∀ i:Nat,i < l.length->Zq1 (atI out (i:Int)) (Dp l i):=by
 have hn:=hG.n
 simp only [F75,wq,reduceCtorEq]
 refine ⟨fun _=>?_,fun h=>absurd h (by omega)⟩
 refine Zac (fun q:Int×List Int=>∃ m:Nat,q.1=m/\m<=l.length/\q.2.length=l.length/\(∀ i:Nat,i < m->Zq1 (atI q.2 (i:Int)) (Dp l i))/\∀ i:Nat,m<=i->i < l.length->atI q.2 (i:Int)=0) (fun q=>l.length - q.1.toNat) ?_ _ ⟨0,rfl,by omega,by simp,(fun i hi=>by omega),fun i _ hi=>Zff _ _⟩
 rintro ⟨_,out⟩ ⟨m,rfl,hm,hol,hP,hZ⟩
 dsimp only at hol hP hZ
 have hw:=Zab m (by omega)
 simp only [ZxD,wq,reduceCtorEq]
 refine ⟨fun hlt=>Zaj (by omega) hlt fun x hx hxm=>?_,fun hge=>?_⟩
 ·rw [Zax] at hx
  have hml:m < l.length:=by omega
  have hkb:=ZeD hg hx
  have hkl:=hG.k x hxm
  obtain ⟨hi3,hi31⟩:=Zer hG hg hx
  have hmo:inR out.length (m:Int):=⟨by omega,by omega⟩
  have hz:=hZ m (le_refl _) hml
  have hwd:wrap .i64 ((x.2.2.length:Int) - 1)=(x.2.2.length:Int) - 1:=Zau (by omega) (by omega)
  -- through the kids
  have inner:∀ o0:List Int,o0.length=l.length->(∀ i:Nat,i≠m->atI o0 (i:Int)=atI out (i:Int))->Zq1 (atI o0 (m:Int)) (fun j=>x.1=3/\j=tdiv x.2.1 16)->Ret (ZxE (m:Int) x o0) (Zev (fun q:Int×List Int=>∃ m:Nat,q.1=m/\m<=l.length/\q.2.length=l.length/\(∀ i:Nat,i < m->Zq1 (atI q.2 (i:Int)) (Dp l i))/\∀ i:Nat,m<=i->i < l.length->atI q.2 (i:Int)=0) (fun q=>l.length - q.1.toNat) (fun out=>out.length=l.length/\∀ i:Nat,i < l.length->Zq1 (atI out (i:Int)) (Dp l i)) ((m:Int),out)):=by
   intro o0 ho0 hsame h0
   unfold ZxE
   refine Zac (fun q:Int×List Int=>∃ k:Nat,q.1=k/\k<=x.2.2.length/\q.2.length=l.length/\(∀ i:Nat,i≠m->atI q.2 (i:Int)=atI out (i:Int))/\Zq1 (atI q.2 (m:Int)) (fun j=>(x.1=3/\j=tdiv x.2.1 16)\/∃ t q:Nat,t < k/\x.2.2[t]?=some (q:Int)/\Dp l q j/\(x.1≠31\/j≠x.2.1\/t < x.2.2.length / 2))) (fun q=>x.2.2.length - q.1.toNat) ?_ _ ⟨0,rfl,by omega,ho0,hsame,h0.congr fun j _=>⟨.inl,fun h=>h.elim id fun ⟨t,q,h,_⟩=>by omega⟩⟩
   rintro ⟨_,o⟩ ⟨k,rfl,hk,hol2,hs2,hB⟩
   dsimp only at hol2 hs2 hB
   have hw2:=Zab k (by omega)
   have hmo2:inR o.length (m:Int):=⟨by omega,by omega⟩
   simp only [ZxC,wq,reduceCtorEq,hw]
   refine ⟨fun hlt2=>Zaj (by omega) hlt2 fun y hy hym=>?_,fun hge2=>?_⟩
   ·obtain ⟨q,rfl⟩:∃ q:Nat,y=q:=⟨y.toNat,by have:=(hkb y hym).1;omega⟩
    have hqm:q < m:=by have:=(hkb _ hym).2;omega
    rw [Zax] at hy
    have hqo:inR o.length (q:Int):=⟨by omega,by omega⟩
    obtain ⟨b,hb1,hb2,hb3⟩:Zq1 (atI o (q:Int)) (Dp l q):=by rw [hs2 q (by omega)];exact hP q hqm
    obtain ⟨a,ha1,ha2,ha3⟩:=hB
    simp only [ZaB hqo,ZaB hmo2,Zx8,ZxA,wq,reduceCtorEq,hw2,hb1]
    have push:∀ c:Nat,c < 65536->(∀ j:Nat,j < 16->(c.testBit j=true↔Dp l q j/\(x.1≠31\/(j:Int)≠x.2.1\/k < x.2.2.length / 2)))->(∃ k':Nat,((k+1:Nat):Int)=k'/\k'<=x.2.2.length/\(Zaq o (m:Int) (ZeM .u32 (ofInt (IntKind.bits .u32) (atI o (m:Int)) ||| ofInt (IntKind.bits .u32) (c:Int)))).length=l.length/\(∀ i:Nat,i≠m->atI (Zaq o (m:Int) (ZeM .u32 (ofInt (IntKind.bits .u32) (atI o (m:Int)) ||| ofInt (IntKind.bits .u32) (c:Int)))) (i:Int)=atI out (i:Int))/\Zq1 (atI (Zaq o (m:Int) (ZeM .u32 (ofInt (IntKind.bits .u32) (atI o (m:Int)) ||| ofInt (IntKind.bits .u32) (c:Int)))) (m:Int)) (fun j=>(x.1=3/\j=tdiv x.2.1 16)\/∃ t q:Nat,t < k'/\x.2.2[t]?=some (q:Int)/\Dp l q j/\(x.1≠31\/j≠x.2.1\/t < x.2.2.length / 2)))/\x.2.2.length - ((k+1:Nat):Int).toNat < x.2.2.length - ((k:Int)).toNat:=by
     intro c hc hcj
     obtain ⟨d,hd1,hd2,hd3⟩:=Z49 ha2 hc
     rw [ha1,hd1]
     refine ⟨⟨k+1,rfl,by omega,by rw [Zay];exact hol2,fun i hi=>?_,d,?_,hd2,fun j hj=>?_⟩,by omega⟩
     ·rw [Za3 hmo2 (by omega),if_neg (by omega)];exact hs2 i hi
     ·rw [Za3 hmo2 (by omega),if_pos rfl]
     ·rw [hd3,Bool.or_eq_true,ha3 j hj,hcj j hj]
      constructor
      ·rintro ((h | ⟨t,q',h1,h2,h3,h4⟩) | ⟨h1,h2⟩)
       ·exact .inl h
       ·exact .inr ⟨t,q',by omega,h2,h3,h4⟩
       ·exact .inr ⟨k,q,by omega,hy,h1,h2⟩
      ·rintro (h | ⟨t,q',h1,h2,h3,h4⟩)
       ·exact .inl (.inl h)
       ·by_cases e:t < k
        ·exact .inl (.inr ⟨t,q',e,h2,h3,h4⟩)
        ·obtain rfl:t=k:=by omega
         rw [hy] at h2
         have:q=q':=by have:=inj h2;omega
         subst this
         exact .inr ⟨h3,h4⟩
    have Zlw:(x.1≠31\/k < x.2.2.length / 2)->∀ j:Nat,j < 16->(b.testBit j=true↔Dp l q j/\(x.1≠31\/(j:Int)≠x.2.1\/k < x.2.2.length / 2)):=fun h j hj=>(hb3 j hj).trans ⟨fun d=>⟨d,by omega⟩,fun d=>d.1⟩
    refine ⟨fun e31=>?_,fun e31=>push b hb2 (Zlw (.inl e31))⟩
    obtain ⟨i0,i1,mm,hmm,m1,m2⟩:=hi31 e31
    have hd3:tdiv ((x.2.2.length:Int) - 1) 2=(mm:Int):=by
     rw [hmm,Int.tdiv_eq_ediv_of_nonneg (by omega)];omega
    have hd4:wrap .i64 (mm:Int)=mm:=Zau (by omega) (by omega)
    obtain ⟨im,him⟩:∃ im:Nat,x.2.1=im:=⟨x.2.1.toNat,by omega⟩
    have him16:im < 16:=by omega
    have hwu:wrap .u64 (im:Int)=im:=Zdz (by omega) (by omega)
    rw [hwd,hd3,hd4]
    refine ⟨fun hge3=>⟨fun h=>?_,fun _=>?_⟩,fun hlt3=>push b hb2 (Zlw (.inr (by omega)))⟩
    ·rw [him,hwu] at h;omega
    ·obtain ⟨c,hc1,hc2,hc3⟩:=Zsu hb2 him16
     rw [him,hc1]
     have hp:=push c hc2 (fun j hj=>by
      rw [hc3,Bool.and_eq_true,hb3 j hj,decide_eq_true_eq]
      constructor
      ·rintro ⟨h1,h2⟩;exact ⟨h1,.inr (.inl (by omega))⟩
      ·rintro ⟨h1,h2⟩;exact ⟨h1,by rintro rfl;rcases h2 with h | h | h;exact absurd e31 h;omega;omega⟩)
     rw [him] at hp
     exact hp
   ·have hkk:k=x.2.2.length:=by omega
    refine ⟨⟨m+1,rfl,by omega,hol2,fun i hi=>?_,fun i hi1 hi2=>by rw [hs2 i (by omega)];exact hZ i (by omega) hi2⟩,by omega⟩
    by_cases e:i=m
    ·subst e
     refine hB.congr fun j hj=>⟨?_,fun h=>?_⟩
     ·rintro (⟨h1,h2⟩ | ⟨t,q,_,h2,h3,h4⟩)
      ·rw [h2];exact .var hx h1
      ·exact .kid hx h2 h3 h4
     ·rcases h.inv hx with ⟨h1,h2⟩ | ⟨t,q,h2,h3,h4⟩
      ·exact .inl ⟨h1,h2⟩
      ·exact .inr ⟨t,q,by have:=ZaA h2;omega,h2,h3,h4⟩
    ·rw [hs2 i e];exact hP i (by omega)
  refine ⟨fun e3=>?_,fun e3=>?_⟩
  ·obtain ⟨i0,i1⟩:=hi3 e3
   obtain ⟨im,him⟩:∃ im:Nat,x.2.1=im:=⟨x.2.1.toNat,by omega⟩
   have hq:tdiv x.2.1 16=((im / 16:Nat):Int):=by rw [him];exact ZiT im 16
   have h16:im / 16 < 16:=by omega
   have hwq:wrap .i64 ((im / 16:Nat):Int)=((im / 16:Nat):Int):=Zau (by omega) (by omega)
   have hwu:wrap .u64 ((im / 16:Nat):Int)=((im / 16:Nat):Int):=Zdz (by omega) (by omega)
   obtain ⟨b1,b2⟩:=Zz3 h16
   rw [hq,hwq,b1,hwu]
   refine ⟨fun h=>by omega,fun _=>?_⟩
   rw [ZaB hmo]
   simp only [wq,reduceCtorEq]
   refine inner _ (by rw [Zay];exact hol) (fun i hi=>?_) ⟨2 ^ (im / 16),?_,b2,fun j hj=>?_⟩
   ·rw [Za3 hmo (by omega),if_neg (by omega)]
   ·rw [Za3 hmo (by omega),if_pos rfl]
   ·rw [Nat.testBit_two_pow,decide_eq_true_eq,hq]
    exact ⟨fun h=>⟨e3,by omega⟩,fun h=>by omega⟩
  ·refine inner out hol (fun _ _=>rfl) ⟨0,hz,by omega,fun j hj=>?_⟩
   rw [Nat.zero_testBit]
   exact ⟨fun h=>(by cases h),fun h=>absurd h.1 e3⟩
 ·have:m=l.length:=by omega
  subst this
  exact ⟨hol,hP⟩
def Z1H (l:List Zae) (m:Nat) (vars:List Int):Prop:=vars.length=16/\∀ j:Int,0<=j->j < 16->(atI vars j=0/\∀ y∈l.take m,y.1=31->y.2.1≠j)\/∃ y∈l.take m,y.1=31/\y.2.1=j/\atI vars j=((y.2.2.length / 2:Nat):Int)/\0 < atI vars j
theorem Z7f (g:GrT) (hW:ZhX g.2.2.1):F51 g=some (wfB g):=by
 refine Ret.eq ?_
 have hG:=hW.toGraphH
 have hn:=hG.n
 have hsl:=ZaK g.2.2.1 g.2.2.1.length
 simp only [F51,ZDa _ hW,ZEq,wq,reduceCtorEq]
 cases hgb:ZeX g.2.2.1
 ·simp only [cond_false,wq,reduceCtorEq]
  exact Zbx fun w=>by (rw [Zc5 w.good] at hgb;cases hgb)
 have hg:Zex g.2.2.1 g.2.2.1.length:=by unfold ZeX at hgb;simpa using hgb
 simp only [cond_true,Z7U,wq,reduceCtorEq]
 refine ⟨fun e1=>Zbx fun w=>e1 w.va,fun e1=>⟨fun e2=>Zbx fun w=>e2 w.st,fun e2=>?_⟩⟩
 have rv:inR g.2.2.1.length g.2.2.2.1:=by have:=Zfe (l:=Zam g.2.2.1 g.2.2.1.length) (i:=g.2.2.2.1) (by omega);rwa [hsl] at this
 have rs:inR g.2.2.1.length g.2.2.2.2:=by have:=Zfe (l:=Zam g.2.2.1 g.2.2.1.length) (i:=g.2.2.2.2) (by omega);rwa [hsl] at this
 refine Zac (fun q:Int×List Int=>∃ m:Nat,q.1=m/\m<=g.2.2.1.length/\Z1H g.2.2.1 m q.2/\∀ i k:Nat,i < m->k < i->∀ x y,g.2.2.1[i]?=some x->g.2.2.1[k]?=some y->x.1=31->y.1=31->y.2.1≠x.2.1) (fun q=>g.2.2.1.length - q.1.toNat) ?_ _ ⟨0,rfl,by omega,⟨by simp,fun j h0 h1=>.inl ⟨Zff _ _,fun y hy=>by simp at hy⟩⟩,fun i k h=>by omega⟩
 rintro ⟨_,vars⟩ ⟨m,rfl,hm,hV,hlp⟩
 dsimp only at hV
 obtain ⟨v16,hV⟩:=hV
 have hw:=Zab m (by omega)
 simp only [ZEp,ZEk,wq,reduceCtorEq,hw]
 refine ⟨fun hlt=>Zaj (by omega) hlt fun x hx hxm=>?_,fun hge=>?_⟩
 ·rw [Zax] at hx
  have htake:∀ y,y∈g.2.2.1.take (m+1)↔y∈g.2.2.1.take m\/y=x:=fun y=>by
   rw [take_add_one,hx,mem_append];simp
  refine ⟨fun e31=>?_,fun e31=>⟨⟨m+1,rfl,by omega,⟨v16,fun j h0 h1=>?_⟩,fun i k hi hk x' y' hx' hy'=>?_⟩,by omega⟩⟩
  ·obtain ⟨i0,i1,mm,hmm,m1,m2⟩:=(Zer hG hg hx).2 e31
   have hiv:inR vars.length x.2.1:=⟨i0,by omega⟩
   have hwd:wrap .i64 ((x.2.2.length:Int) - 1)=(x.2.2.length:Int) - 1:=Zau (by omega) (by omega)
   have hd3:tdiv ((x.2.2.length:Int) - 1) 2=(mm:Int):=by
    rw [hmm,Int.tdiv_eq_ediv_of_nonneg (by omega)];omega
   have hd4:wrap .i64 (mm:Int)=mm:=Zau (by omega) (by omega)
   rw [ZaB hiv,hwd,hd3,hd4]
   simp only [wq,reduceCtorEq]
   refine ⟨fun _=>⟨fun hpos=>Zbx fun w=>?_,fun hz=>⟨fun _=>?_,fun h=>by omega⟩⟩,fun h=>by omega⟩
   ·rcases hV x.2.1 i0 i1 with ⟨h,_⟩ | ⟨y,hy,y1,y2,_⟩
    ·omega
    ·obtain ⟨k,hk⟩:=getElem?_of_mem hy
     have hkm:k < m:=by have:=ZaA hk;rw [length_take] at this;omega
     rw [List.getElem?_take_of_lt hkm] at hk
     exact w.lp m k hkm x y hx hk e31 y1 y2
   ·have hno:∀ y∈g.2.2.1.take m,y.1=31->y.2.1≠x.2.1:=by
     rcases hV x.2.1 i0 i1 with ⟨_,h⟩ | ⟨y,hy,y1,y2,_,h⟩
     ·exact h
     ·omega
    refine ⟨⟨m+1,rfl,by omega,⟨by rw [Zay];exact v16,fun j h0 h1=>?_⟩,fun i k hi hk x' y' hx' hy'=>?_⟩,by omega⟩
    ·rw [Za3 hiv h0]
     split
     ·subst ‹j=_›
      exact .inr ⟨x,(htake x).2 (.inr rfl),e31,rfl,by rw [hmm];omega,by omega⟩
     ·rename_i hne
      rcases hV j h0 h1 with ⟨h,h2⟩ | ⟨y,hy,h⟩
      ·refine .inl ⟨h,fun y hy y1=>?_⟩
       rcases (htake y).1 hy with hy | rfl
       ·exact h2 y hy y1
       ·exact fun e=>hne e.symm
      ·exact .inr ⟨y,(htake y).2 (.inl hy),h⟩
    ·by_cases e:i < m
     ·exact hlp i k e hk x' y' hx' hy'
     ·have:i=m:=by omega
      subst this
      rw [hx] at hx';obtain rfl:=inj hx'
      exact fun _ e2=>hno y' (mem_of_getElem? (by rw [List.getElem?_take_of_lt hk];exact hy')) e2
  ·rcases hV j h0 h1 with ⟨h,h2⟩ | ⟨y,hy,h⟩
   ·refine .inl ⟨h,fun y hy y1=>?_⟩
    rcases (htake y).1 hy with hy | rfl
    ·exact h2 y hy y1
    ·exact absurd y1 e31
   ·exact .inr ⟨y,(htake y).2 (.inl hy),h⟩
  ·by_cases e:i < m
   ·exact hlp i k e hk x' y' hx' hy'
   ·have:i=m:=by omega
    subst this
    rw [hx] at hx';obtain rfl:=inj hx'
    exact fun e1=>absurd e1 e31
 ·have hmn:m=g.2.2.1.length:=by omega
  rw [take_of_length_le (by omega)] at hV
  have hlp':∀ i k:Nat,k < i->∀ x y,g.2.2.1[i]?=some x->g.2.2.1[k]?=some y->x.1=31->y.1=31->y.2.1≠x.2.1:=fun i k hk x y hx hy=>hlp i k (by have:=ZaA hx;omega) hk x y hx hy
  refine Zac (fun q:Int×List Int=>∃ m:Nat,q=((m:Int),vars)/\m<=g.2.2.1.length/\∀ x∈g.2.2.1.take m,x.1=3->∀ y∈g.2.2.1,y.1=31->y.2.1=tdiv x.2.1 16->tmod x.2.1 16 < ((y.2.2.length / 2:Nat):Int)) (fun q=>g.2.2.1.length - q.1.toNat) ?_ _ ⟨0,rfl,by omega,fun x hx=>by simp at hx⟩
  rintro _ ⟨m,rfl,hm,hlv⟩
  have hw:=Zab m (by omega)
  simp only [ZEo,ZEm,ZEl,ZEn,wq,reduceCtorEq,hw]
  refine ⟨fun hlt=>Zaj (by omega) hlt fun x hx hxm=>?_,fun hge=>?_⟩
  ·rw [Zax] at hx
   have nx:(x.1=3->∀ y∈g.2.2.1,y.1=31->y.2.1=tdiv x.2.1 16->tmod x.2.1 16 < ((y.2.2.length / 2:Nat):Int))->∃ m':Nat,(((m+1:Nat):Int),vars)=((m':Int),vars)/\m'<=g.2.2.1.length/\∀ x∈g.2.2.1.take m',x.1=3->∀ y∈g.2.2.1,y.1=31->y.2.1=tdiv x.2.1 16->tmod x.2.1 16 < ((y.2.2.length / 2:Nat):Int):=fun h=>by
    refine ⟨m+1,rfl,by omega,fun z hz=>?_⟩
    rw [take_add_one,hx] at hz
    rcases mem_append.1 hz with hz | hz
    ·exact hlv z hz
    ·rw [show z=x by simpa using hz];exact h
   refine ⟨fun e3=>?_,fun e3=>⟨nx fun h=>absurd h e3,by omega⟩⟩
   obtain ⟨i0,i1⟩:=(Zer hG hg hx).1 e3
   obtain ⟨im,him⟩:∃ im:Nat,x.2.1=im:=⟨x.2.1.toNat,by omega⟩
   have hq:tdiv x.2.1 16=((im / 16:Nat):Int):=by rw [him];exact ZiT im 16
   have h16:im / 16 < 16:=by omega
   have hwq:wrap .i64 ((im / 16:Nat):Int)=((im / 16:Nat):Int):=Zau (by omega) (by omega)
   have hiv:inR vars.length ((im / 16:Nat):Int):=⟨by omega,by omega⟩
   rw [hq,hwq,ZaB hiv]
   simp only [wq,reduceCtorEq]
   refine ⟨fun _=>⟨fun hpos=>⟨fun hge2=>?_,fun hlt2=>⟨nx fun _ y hy y1 y2=>?_,by omega⟩⟩,fun hz=>⟨nx fun _ y hy y1 y2=>?_,by omega⟩⟩,fun h=>by omega⟩
   ·rcases hV _ (show (0:Int)<=((im / 16:Nat):Int) by omega) (by omega) with ⟨h,_⟩ | ⟨y,hy,y1,y2,y3,_⟩
    ·omega
    ·exact Zbx fun w=>by have:=w.lv x hxm e3 y hy y1 (by rw [y2,hq]);omega
   ·rcases hV _ (show (0:Int)<=((im / 16:Nat):Int) by omega) (by omega) with ⟨h,_⟩ | ⟨z,hz,z1,z2,z3,_⟩
    ·omega
    ·have:y=z:=by
      obtain ⟨a,ha⟩:=getElem?_of_mem hy
      obtain ⟨b,hb⟩:=getElem?_of_mem hz
      have hab:a=b:=by
       rcases Nat.lt_trichotomy a b with h | h | h
       ·exact absurd (by rw [y2,z2,hq]) (hlp' b a h z y hb ha z1 y1)
       ·exact h
       ·exact absurd (by rw [y2,z2,hq]) (hlp' a b h y z ha hb y1 z1)
      subst hab
      rw [ha] at hb
      exact inj hb
     subst this
     omega
   ·rcases hV _ (show (0:Int)<=((im / 16:Nat):Int) by omega) (by omega) with ⟨_,h⟩ | ⟨z,hz,z1,z2,z3,z4⟩
    ·exact absurd (by rw [y2,hq]) (h y hy y1)
    ·omega
  ·have hlv':∀ x∈g.2.2.1,x.1=3->∀ y∈g.2.2.1,y.1=31->y.2.1=tdiv x.2.1 16->tmod x.2.1 16 < ((y.2.2.length / 2:Nat):Int):=by
    rw [take_of_length_le (by omega)] at hlv;exact hlv
   refine (ZEL hG hg).mono fun out _ ⟨hol,hB⟩=>?_
   have nv:((g.2.2.2.1.toNat:Nat):Int)=g.2.2.2.1:=by have:=rv.1;omega
   have ns:((g.2.2.2.2.toNat:Nat):Int)=g.2.2.2.2:=by have:=rs.1;omega
   obtain ⟨a,a1,a2,a3⟩:=hB g.2.2.2.1.toNat (by have:=rv.2;have:=rv.1;omega)
   obtain ⟨b,b1,b2,b3⟩:=hB g.2.2.2.2.toNat (by have:=rs.2;have:=rs.1;omega)
   rw [nv] at a1
   rw [ns] at b1
   rw [ZaB (l:=out) (i:=g.2.2.2.1) (by rw [hol];exact rv),ZaB (l:=out) (i:=g.2.2.2.2) (by rw [hol];exact rs),a1,b1]
   simp only [wq,reduceCtorEq]
   refine ⟨fun e=>?_,fun e=>Zbx fun w=>?_⟩
   ·have ha0:a=0:=by omega
    rw [Bool.eq_iff_iff,ZvJ,beq_iff_eq]
    constructor
    ·intro e5
     have hb0:b=0:=by omega
     refine ⟨hg,e1,e2,hlp',hlv',fun j h0 h1=>?_⟩
     obtain ⟨jn,rfl⟩:∃ jn:Nat,j=jn:=⟨j.toNat,by omega⟩
     have hj:jn < 16:=by omega
     refine ⟨fun d=>?_,fun d=>?_⟩
     ·have:=(a3 jn hj).2 d;rw [(Zfg a2).1 ha0 jn hj] at this;cases this
     ·have:=(b3 jn hj).2 d;rw [(Zfg b2).1 hb0 jn hj] at this;cases this
    ·intro w
     have:b=0:=(Zfg b2).2 fun j hj=>by
      cases h:b.testBit j
      ·rfl
      ·exact absurd ((b3 j hj).1 h) (w.dp j (by omega) (by omega)).2
     omega
   ·have:a=0:=(Zfg a2).2 fun j hj=>by
     cases h:a.testBit j
     ·rfl
     ·exact absurd ((a3 j hj).1 h) (w.dp j (by omega) (by omega)).1
    omega
end Go.Dat
namespace Go.Dat
open Go.Eng
mutual
theorem Po.det {s:Za5} {ch:List Int} {c:Int} {vs a b:List Int}:Po s ch c vs a->Po s ch c vs b->a=b
 | .seen _,.seen _=>rfl
 | .seen h,.new h2 _ _ _=>absurd h h2
 | .new h2 _ _ _,.seen h=>absurd h h2
 | .new _ _ h1 _,.new _ _ h2 _=>by rw [PoL.det h1 h2]
theorem PoL.det {s:Za5} {ch ps:List Int} {vs a b:List Int}:PoL s ch ps vs a->PoL s ch ps vs b->a=b
 | .nil,.nil=>rfl
 | .cons h1 h2,.cons h3 h4=>by
  have e:=Po.det h1 h3
  subst e
  exact PoL.det h2 h4
end
theorem PoR.uniq {s:Za5} {ch a b:List Int} (ha:PoR s ch a) (hb:PoR s ch b):a=b:=ha.po.det hb.po
section
variable {s:Za5} {ch vs:List Int} (h:PoR s ch vs)
include h
theorem Z1I {q:Int} (hq:RS s ch q):q∈vs:=by
 induction hq with
 | val=>exact h.va
 | st=>exact h.st
 | step _ e ih=>exact ((h.sel _ ih).2.2 _ e.2).1
theorem Zz5 {p q:Int} (hp:ZnS s ch p q) (hm:p∈vs):q∈vs/\ZdD vs q<=ZdD vs p:=by
 induction hp with
 | refl=>exact ⟨hm,Int.le_refl _⟩
 | snoc _ e ih=>
  obtain ⟨a,b⟩:=ih
  obtain ⟨c,d⟩:=(h.sel _ a).2.2 _ e.2
  exact ⟨c,by omega⟩
theorem Zq2 (hb:Zqx s ch):False:=by
 obtain ⟨q,hq,hb⟩:=hb
 have hm:=Z1I h hq
 rcases hb with hb | ⟨p,e,hp⟩
 ·have:=(h.sel q hm).2.1;omega
 ·obtain ⟨c,d⟩:=(h.sel q hm).2.2 p e.2
  have:=(Zz5 h hp c).2
  omega
end
theorem Zq0.uniq {s:Za5} {ch:List Int} {r r':GrT×Bool} (h:Zq0 s ch r) (h':Zq0 s ch r'):r=r':=by
 rcases h with ⟨b,rfl⟩ | ⟨vs,hv,rfl⟩<;>rcases h' with ⟨b',rfl⟩ | ⟨vs',hv',rfl⟩
 ·rfl
 ·exact (Zq2 hv' b).elim
 ·exact (Zq2 hv b').elim
 ·rw [hv.uniq hv']
structure BP (s:Za5) (ch:List Int) (st:List Int) (vs:List Int):Prop extends VsI s ch vs where
 len:st.length=s.1.length
 v:∀ q,inR s.1.length q->q∉vs->atI st q=0\/atI st q=1
 idx:∀ q∈vs,atI st q=2
abbrev Z4A:=Bool×List Int×Option Zwb×List Int×List Int
def Z2p (s:Za5) (ch:List Int) (c:Int) (st vs:List Int) (r:Z4A):Prop:=
 ∃ ok st' out,r=(ok,ch,some (Zbz s),st',out)/\st'.length=s.1.length/\out.length+Zhb st'<=vs.length+Zhb st/\(ok=false->Zqx s ch) /\
  (ok=true->∃ es,out=vs++es/\Po s ch c vs (vs++es)/\c∈vs++es/\BP s ch st' (vs++es)/\(∀ q,inR s.1.length q->(atI st' q=1↔atI st q=1))/\Zhb st'<=Zhb st)
section
variable {s:Za5} (X:Ctx s) {ch:List Int} (hs:Zdi s ch)
theorem Zih (n:Nat) (c:Int) (hc:inR s.1.length c) (st out:List Int) (hl:st.length=s.1.length):N74 (n+1) c false ch (some (Zbz s)) st out=some (false,ch,some (Zbz s),st,out):=by
 refine Ret.eq ?_
 have hg:gI st c=some (atI st c):=ZaB (by rw [hl];exact hc)
 show Ret (G74 _ c false ch (some (Zbz s)) st out) _
 simp only [G74,Z8R,hg,wq,reduceCtorEq]
include X hs
theorem Zhi:∀ (n:Nat) (c:Int),RS s ch c->∀ (st vs:List Int),BP s ch st vs->(∀ q,inR s.1.length q->atI st q=1->∃ b,ZnS s ch q b/\EdS s ch b c)->Zhb st < n->vs.length+Zhb st<=900 ->
 Ret (N74 n c true ch (some (Zbz s)) st vs) (Z2p s ch c st vs)
 | 0,c,hc,st,vs,hB,h1,hz,hg=>by omega
 | n+1,c,hc,st,vs,hB,h1,hz,hg=>by
  have hrep:=RS.rep X hs hc
  have hal:inR st.length c:=by rw [hB.len];exact hrep.1
  have hga:gI st c=some (atI st c):=ZaB hal
  have hgc:gI ch c=some (atI ch c):=ZaB (by rw [hs.1];exact hrep.1)
  show Ret (G74 (N74 n) c true ch (some (Zbz s)) st vs) _
  simp only [G74,Z8R,Z9S,hga,hgc,wq,reduceCtorEq,bind_some]
  have bad:Zqx s ch->Z2p s ch c st vs (false,ch,some (Zbz s),st,vs):=fun h=>⟨false,st,vs,rfl,hB.len,le_refl _,fun _=>h,fun h=>by cases h⟩
  refine ⟨fun e2=>?_,fun e2=>⟨fun e1=>?_,fun e1=>⟨fun e3=>bad ⟨c,hc,.inl e3⟩,fun e3=>?_⟩⟩⟩
  ·have hin:c∈vs:=by
    by_cases h:c∈vs
    ·exact h
    ·rcases hB.v c hrep.1 h with h | h<;>omega
   refine ⟨true,st,vs,rfl,hB.len,le_refl _,(fun h=>by cases h),fun _=>⟨[],?_⟩⟩
   rw [append_nil]
   exact ⟨rfl,.seen hin,hin,hB,fun _ _=>Iff.rfl,le_refl _⟩
  ·obtain ⟨b,p1,p2⟩:=h1 c hrep.1 e1
   refine bad ⟨c,hc,.inr ?_⟩
   rcases p1.head with rfl | ⟨d,h3,h4⟩
   ·exact ⟨_,p2,.refl⟩
   ·exact ⟨d,h3,h4.snoc p2⟩
  have hin:c∉vs:=fun h=>e2 (hB.idx c h)
  have em1:atI st c=0:=by rcases hB.v c hrep.1 hin with h | h;exact h;exact absurd h e1
  have hdr:=Zf4 X hs hrep.1 e3
  have hkl:=X.kids.k _ (Zav hdr)
  have hkr:=X.kids.r _ (Zav hdr)
  have hnd:gI (Zbz s).1.1 (atI ch c)=some (Zar s.1 (atI ch c)):=Za2 hdr
  simp only [hnd,wq,reduceCtorEq]
  have hz1:=ZmR hal em1 (x:=1) (by omega)
  have B1:BP s ch (Zaq st c 1) vs:=by
   refine ⟨hB.toVsI,by rw [Zay];exact hB.len,fun q hq hnq=>?_,fun q hq=>?_⟩
   ·rw [Za3 hal hq.1];split
    ·exact .inr rfl
    ·exact hB.v q hq hnq
   ·rw [Za3 hal ((hB.sel q hq).1.1).1,if_neg (fun e:q=c=>hin (e▸hq))];exact hB.idx q hq
  refine Zac (fun o=>∃ (j:Nat) (ok:Bool) (st' out:List Int),o=((j:Int),ok,ch,some (Zbz s),st',out)/\j<=(Zar s.1 (atI ch c)).2.2.length/\st'.length=s.1.length/\out.length+Zhb st'<=vs.length+Zhb (Zaq st c 1)/\(ok=false->Zqx s ch) /\
   (ok=true->∃ es,out=vs++es/\PoL s ch (Za9 s (atI ch c) j) vs (vs++es)/\(∀ p∈Za9 s (atI ch c) j,p∈vs++es)/\BP s ch st' (vs++es)/\(∀ q,inR s.1.length q->(atI st' q=1↔atI (Zaq st c 1) q=1))/\Zhb st'<=Zhb (Zaq st c 1))) (fun o=>(Zar s.1 (atI ch c)).2.2.length - o.1.toNat) ?_ _ ⟨0,true,_,vs,rfl,by omega,by rw [Zay];exact hB.len,le_refl _,(fun h=>by cases h),fun _=>⟨[],?_⟩⟩
  ·rintro _ ⟨j,ok,st',out,rfl,hj,hl',hc',hbad,hok⟩
   have hw:=Zab j (by omega)
   simp only [Z9U,wq,reduceCtorEq,hw,bind_some]
   refine ⟨fun hlt=>Zaj (by omega) hlt fun y hy hym=>?_,fun hge=>?_⟩
   ·have hyr:=hkr y hym
    have hcg:gI (Zbz s).2.1 y=some (atI (Zai s) y):=X.cget hyr
    simp only [hcg,wq,reduceCtorEq]
    rw [Zax] at hy
    have hgk:=ZbV X hy
    have hpm:atI (Zai s) y∈Zbh s (atI ch c):=mem_of_getElem? hgk
    have hsn:Za9 s (atI ch c) (j+1)=Za9 s (atI ch c) j++[atI (Zai s) y]:=by unfold Za9;rw [take_add_one,hgk];rfl
    cases ok with
    | false=>
     obtain ⟨n',rfl⟩:∃ n',n=n'+1:=⟨n - 1,by omega⟩
     rw [Zih n' _ (X.ci.rng hyr) st' out hl']
     simp only [wq,reduceCtorEq]
     exact ⟨⟨j+1,false,st',out,rfl,by omega,hl',hc',hbad,fun h=>by cases h⟩,by omega⟩
    | true=>
     obtain ⟨es,rfl,q1,q2,q3,q6,q7⟩:=hok rfl
     refine (Zhi n _ (.step hc ⟨e3,hpm⟩) st' (vs++es) q3 (fun q hqr h=>?_) (by omega) (by omega)).mono fun o _ ⟨ok2,st2,out2,eo,w1,w2,w3,w4⟩=>?_
     ·have hh:=(q6 q hqr).1 h
      rw [Za3 hal hqr.1] at hh
      split at hh
      ·subst ‹q=c›;exact ⟨q,.refl,e3,hpm⟩
      ·obtain ⟨b,p1,p2⟩:=h1 q hqr hh
       exact ⟨c,p1.snoc p2,e3,hpm⟩
     ·subst eo
      refine ⟨⟨j+1,ok2,st2,out2,rfl,by omega,w1,by omega,w3,fun h=>?_⟩,by omega⟩
      obtain ⟨es2,z0,z1,z2,z3,z6,z7⟩:=w4 h
      refine ⟨es++es2,?_,?_,fun p hp=>?_,?_,fun q hqr=>(z6 q hqr).trans (q6 q hqr),by omega⟩
      ·rw [<-append_assoc];exact z0
      ·rw [hsn,<-append_assoc];exact q1.snoc z1
      ·rw [<-append_assoc]
       rw [hsn] at hp
       rcases mem_append.1 hp with hp | hp
       ·exact mem_append_left _ (q2 p hp)
       ·rw [mem_singleton.1 hp];exact z2
      ·rw [<-append_assoc];exact z3
   ·have hal':inR st'.length c:=by rw [hl'];exact hrep.1
    have hall:Za9 s (atI ch c) j=Zbh s (atI ch c):=by unfold Za9;rw [take_of_length_le (by rw [Zbw X];omega)]
    have hzl:=Zhc hal' (x:=2) (by omega)
    simp only [ZaB hal',wq,reduceCtorEq]
    refine ⟨fun _=>⟨ok,_,_,rfl,by rw [Zay];exact hl',by simp;omega,hbad,fun h=>?_⟩,fun h=>absurd h (by simp only [length_cons,length_nil];omega)⟩
    obtain ⟨es,rfl,q1,q2,q3,q6,q7⟩:=hok h
    rw [hall] at q1 q2
    have hcn:c∉vs++es:=fun hm=>by
     have h5:=q3.idx c hm
     have h6:=(q6 c hrep.1).2 (by rw [Za3 hal hrep.1.1,if_pos rfl])
     omega
    have hV:=q3.toVsI.snoc hrep hcn e3 q2
    refine ⟨es++[c],by rw [append_assoc],?_,by simp,⟨by rw [<-append_assoc];exact hV,by rw [Zay];exact hl',fun q hq hnq=>?_,fun q hq=>?_⟩,fun q hq=>?_,by omega⟩
    ·rw [<-append_assoc];exact .new hin e3 q1 hcn
    ·rw [<-append_assoc,mem_append,mem_singleton] at hnq
     rw [Za3 hal' hq.1,if_neg (fun e=>hnq (.inr e))]
     exact q3.v q hq fun hm=>hnq (.inl hm)
    ·rw [<-append_assoc,mem_append,mem_singleton] at hq
     rcases hq with hq | rfl
     ·rw [Za3 hal' ((q3.sel q hq).1.1).1,if_neg (fun e:q=c=>hcn (e▸hq))];exact q3.idx q hq
     ·rw [Za3 hal' hrep.1.1,if_pos rfl]
    ·rw [Za3 hal' hq.1]
     split
     ·subst ‹q=c›;constructor<;>intro h<;>omega
     ·rename_i hne
      rw [q6 q hq,Za3 hal hq.1,if_neg hne]
  ·rw [append_nil]
   exact ⟨rfl,.nil,fun p hp=>by simp [Za9] at hp,B1,fun _ _=>Iff.rfl,le_refl _⟩
theorem Z76:Ret (F50 (some (Zbz s)) ch) fun r=>(Zqx s ch/\r.2=false)\/∃ vs,PoR s ch vs/\r=(vs,true):=by
 have hn:=X.n
 have hcl:=hs.1
 simp only [F50,Zz8 X,ZmP.2 hs,wq,reduceCtorEq,bind_some,hcl,toNat_natCast]
 refine ⟨fun _=>?_,fun h=>absurd h (by omega)⟩
 have hcv:gI (Zbz s).2.1 (Zbz s).1.2.2.2.1=some (atI (Zai s) s.2.2.2.1):=X.cget X.v.va
 have hcs:gI (Zbz s).2.1 (Zbz s).1.2.2.2.2.1=some (atI (Zai s) s.2.2.2.2.1):=X.cget X.v.st
 simp only [hcv,wq,reduceCtorEq]
 have B0:BP s ch (replicate s.1.length 0) []:=⟨⟨List.nodup_nil,fun q hq=>by cases hq⟩,by simp,fun q hq _=>.inl (Zff _ _),fun q hq=>(by cases hq)⟩
 have hc0:Zhb (replicate s.1.length 0)=s.1.length:=by unfold Zhb;simp
 refine Ret.mono (show Ret (F74 (atI (Zai s) s.2.2.2.1) true ch (some (Zbz s)) (replicate s.1.length 0) []) _ from Zhi X hs 1000 (atI (Zai s) s.2.2.2.1) .val _ [] B0 (fun q hq h=>by rw [Zff] at h;omega) (by omega) (by simp only [length_nil];omega)) fun o _ ⟨ok,st,out,eo,a1,a2,a3,a4⟩=>?_
 subst eo
 simp only [bind_some,hcs,wq,reduceCtorEq,length_nil] at a2 |-
 cases ok with
 | false=>
  rw [show F74 (atI (Zai s) s.2.2.2.2.1) false ch (some (Zbz s)) st out=_ from Zih 999 (atI (Zai s) s.2.2.2.2.1) (X.ci.rng X.v.st) st out a1]
  simp only [wq,reduceCtorEq]
  exact .inl (a3 rfl)
 | true=>
  obtain ⟨es,b0,b1,b2,b3,b6,b7⟩:=a4 rfl
  rw [nil_append] at b0 b1 b2 b3
  subst b0
  refine Ret.mono (show Ret (F74 (atI (Zai s) s.2.2.2.2.1) true ch (some (Zbz s)) st out) _ from Zhi X hs 1000 (atI (Zai s) s.2.2.2.2.1) .st st out b3 (fun q hq h=>by rw [b6 q hq,Zff] at h;omega) (by omega) (by omega)) fun o _ ⟨ok2,st2,out2,eo,c1,c2,c3,c4⟩=>?_
  subst eo
  cases ok2 with
  | false=>exact .inl ⟨c3 rfl,rfl⟩
  | true=>
   obtain ⟨es2,d0,d1,d2,d3,d6,d7⟩:=c4 rfl
   exact .inr ⟨out++es2,⟨d3.toVsI,.cons b1 (.cons d1 .nil),mem_append_left _ b2,d2,by rw [d0] at c2;omega⟩,by rw [d0]⟩
theorem Zsv {q:Int} (hq:inR s.1.length (atI ch q)) {m:Int} (hm:0<=m) (h2:(Zar s.1 (atI ch q)).1=2):(if wrap .i64 ((Zar s.1 (atI ch q)).2.1+1) > m then wrap .i64 ((Zar s.1 (atI ch q)).2.1+1) else m)=ZkA s ch m q:=by
 have hx:s.1[(atI ch q).toNat]?=some (Zar s.1 (atI ch q)):=(ZaI (Za2 hq)).2.2
 obtain ⟨i0,i1⟩:=(Zhh X.h.g.toGraphH X.v.good hx).1 h2
 unfold ZkA
 rw [Zau (by omega) (by omega)]
 split<;>split<;>omega
theorem ZvO (vs:List Int) (hv:∀ q∈vs,inR s.1.length (atI ch q)):0<=Zig s ch vs:=by
 unfold Zig
 suffices h:∀ (l:List Int) (m:Int),(∀ q∈l,inR s.1.length (atI ch q))->0<=m->0<=l.foldl (ZkA s ch) m from h vs 0 hv (by omega)
 intro l
 induction l with
 | nil=>intro m _ h;exact h
 | cons q l ih=>
  intro m hl h
  refine ih _ (fun p hp=>hl p (mem_cons_of_mem _ hp)) ?_
  have hq:=hl q (by simp)
  have hx:s.1[(atI ch q).toNat]?=some (Zar s.1 (atI ch q)):=(ZaI (Za2 hq)).2.2
  unfold ZkA
  split
  ·rename_i h2
   obtain ⟨i0,i1⟩:=(Zhh X.h.g.toGraphH X.v.good hx).1 h2.1
   rw [Zau (by omega) (by omega)];omega
  ·exact h
theorem Z89:Ret (F25 (some (Zbz s)) ch) (Zq0 s ch):=by
 have hn:=X.n
 have hcl:=hs.1
 simp only [F25,wq,reduceCtorEq,hcl,toNat_natCast]
 refine (Z76 X hs).mono fun r _ hr=>?_
 rcases hr with ⟨hb,e⟩ | ⟨vs,hv,rfl⟩
 ·rw [e]
  exact ⟨fun _=>.inl ⟨hb,rfl⟩,fun h=>by cases h⟩
 refine ⟨fun h=>by (cases h),fun _=>⟨fun _=>?_,fun h=>absurd h (by omega)⟩⟩
 have hvl:=hv.len
 have hsr:∀ q∈vs,inR s.1.length (atI ch q):=fun q hq=>Zf4 X hs (hv.sel q hq).1.1 (hv.sel q hq).2.1
 refine Zac (fun o=>∃ (k:Nat) (num:List Int),k<=vs.length/\num.length=s.1.length/\(∀ q∈vs.take k,atI num q=ZdD vs q)/\o=((k:Int),empty,0,0,0,empty,Zig s ch (vs.take k),0,0,num,(vs.take k).map (Zjp s ch vs))) (fun o=>vs.length - o.1.toNat) ?_ _ ⟨0,_,by omega,by simp,(fun q hq=>by simp at hq),rfl⟩
 rintro _ ⟨k,num,hk,hnl,hnum,rfl⟩
 have hw:=Zab k (by omega)
 simp only [Z50,Z51,wq,reduceCtorEq,bind_some]
 refine ⟨fun hlt=>Zaj (by omega) hlt fun c hc hcm=>?_,fun hge=>?_⟩
 ·have hdr:=hsr c hcm
  obtain ⟨hrep,hse,hkids⟩:=hv.sel c hcm
  have hgc:gI ch c=some (atI ch c):=ZaB (by rw [hcl];exact hrep.1)
  have hnd:gI (Zbz s).1.1 (atI ch c)=some (Zar s.1 (atI ch c)):=Za2 hdr
  have hkl:=X.kids.k _ (Zav hdr)
  have hkr:=X.kids.r _ (Zav hdr)
  have hcp:ZdD vs c=k:=by
   rw [Zax] at hc
   obtain ⟨h1,h2⟩:=List.getElem?_eq_some_iff.1 hc
   unfold ZdD
   rw [<-h2,List.Nodup.idxOf_getElem hv.nd]
  simp only [hgc,hnd,wq,reduceCtorEq]
  refine Zac (fun o=>∃ j:Nat,j<=(Zar s.1 (atI ch c)).2.2.length/\o=((j:Int),empty,0,0,0,empty,Zig s ch (vs.take k),0,0,num,(Za9 s (atI ch c) j).map (ZdD vs),(vs.take k).map (Zjp s ch vs))) (fun o=>(Zar s.1 (atI ch c)).2.2.length - o.1.toNat) ?_ _ ⟨0,by omega,by simp [Za9]⟩
  rintro _ ⟨j,hj,rfl⟩
  have hw2:=Zab j (by omega)
  have hkk:(Za9 s (atI ch c) j).length=j:=by unfold Za9;rw [length_take,Zbw X];omega
  simp only [ZEr,Z51,wq,reduceCtorEq,bind_some,hw,hw2]
  refine ⟨fun hlt2=>Zaj (by omega) hlt2 fun y hy hym=>?_,fun hge2=>?_⟩
  ·have hyr:=hkr y hym
   have hcg:gI (Zbz s).2.1 y=some (atI (Zai s) y):=X.cget hyr
   rw [Zax] at hy
   have hgk:=ZbV X hy
   have hpm:atI (Zai s) y∈Zbh s (atI ch c):=mem_of_getElem? hgk
   have hgn:gI num (atI (Zai s) y)=some (atI num (atI (Zai s) y)):=ZaB (by rw [hnl];exact X.ci.rng hyr)
   simp only [hcg,hgn,wq,reduceCtorEq]
   refine ⟨fun _=>⟨⟨j+1,by omega,?_⟩,by omega⟩,fun h=>absurd h (by simp only [length_cons,length_nil,length_map];omega)⟩
   obtain ⟨p1,p2⟩:=hkids _ hpm
   have:atI num (atI (Zai s) y)=ZdD vs (atI (Zai s) y):=hnum _ (by
    rw [hcp] at p2
    have h5:=Zqy p1
    unfold ZdD at p2 h5
    have h6:vs.idxOf (atI (Zai s) y) < k:=by omega
    have h7:(vs.take k)[vs.idxOf (atI (Zai s) y)]?=some (atI (Zai s) y):=by
     rw [List.getElem?_take_of_lt h6,getElem?_eq_getElem (by omega),List.getElem_idxOf]
    exact mem_of_getElem? h7)
   have hsn:Za9 s (atI ch c) (j+1)=Za9 s (atI ch c) j++[atI (Zai s) y]:=by unfold Za9;rw [take_add_one,hgk];rfl
   rw [this,hsn,map_append];rfl
  ·have hall:Za9 s (atI ch c) j=Zbh s (atI ch c):=by unfold Za9;rw [take_of_length_le (by rw [Zbw X];omega)]
   have hgn:gI num c=some (atI num c):=ZaB (by rw [hnl];exact hrep.1)
   have hnr:inR num.length c:=by rw [hnl];exact hrep.1
   rw [Zax] at hc
   have hts:vs.take (k+1)=vs.take k++[c]:=by rw [take_add_one,hc];rfl
   have fin:∀ p,p=Zig s ch (vs.take (k+1))->(∃ (k':Nat) (num':List Int),k'<=vs.length/\num'.length=s.1.length/\(∀ q∈vs.take k',atI num' q=ZdD vs q)/\(((k+1:Nat):Int),empty,(0:Int),(0:Int),(0:Int),empty,p,(0:Int),(0:Int),Zaq num c (k:Int),(vs.take k).map (Zjp s ch vs)++[((Zar s.1 (atI ch c)).1,(Zar s.1 (atI ch c)).2.1,(Za9 s (atI ch c) j).map (ZdD vs))])=((k':Int),empty,0,0,0,empty,Zig s ch (vs.take k'),0,0,num',(vs.take k').map (Zjp s ch vs))):=fun p hp=>by
    refine ⟨k+1,Zaq num c (k:Int),by omega,by rw [Zay];exact hnl,fun q hq=>?_,?_⟩
    ·rw [hts] at hq
     have hqv:q∈vs:=by rcases mem_append.1 hq with hq | hq;exact List.mem_of_mem_take hq;rw [mem_singleton.1 hq];exact hcm
     rw [Za3 hnr ((hv.sel q hqv).1.1).1]
     split
     ·subst ‹q=c›;exact hcp.symm
     ·rcases mem_append.1 hq with hq | hq
      ·exact hnum q hq
      ·exact absurd (mem_singleton.1 hq) ‹_›
    ·rw [hp,hts,map_append,hall];rfl
   have hpn:=ZvO X hs (vs.take k) (fun q hq=>hsr q (List.mem_of_mem_take hq))
   simp only [hgn,wq,reduceCtorEq]
   refine ⟨fun _=>⟨fun e2=>⟨fin _ ?_,by omega⟩,fun e2=>⟨fin _ ?_,by omega⟩⟩,fun h=>absurd h (by simp only [length_cons,length_nil,length_map,length_take];omega)⟩
   ·rw [hts,Zhf];exact Zsv X hs hdr hpn e2
   ·rw [hts,Zhf];unfold ZkA;rw [if_neg (fun h=>e2 h.1)]
 ·have hkn:vs.length<=k:=by omega
  rw [take_of_length_le hkn] at hnum
  rw [take_of_length_le hkn]
  have hcv:gI (Zbz s).2.1 (Zbz s).1.2.2.2.1=some (atI (Zai s) s.2.2.2.1):=X.cget X.v.va
  have hcs:gI (Zbz s).2.1 (Zbz s).1.2.2.2.2.1=some (atI (Zai s) s.2.2.2.2.1):=X.cget X.v.st
  have h1:gI num (atI (Zai s) s.2.2.2.1)=some (ZdD vs (atI (Zai s) s.2.2.2.1)):=by rw [ZaB (by rw [hnl];exact X.ci.rng X.v.va),hnum _ hv.va]
  have h2:gI num (atI (Zai s) s.2.2.2.2.1)=some (ZdD vs (atI (Zai s) s.2.2.2.2.1)):=by rw [ZaB (by rw [hnl];exact X.ci.rng X.v.st),hnum _ hv.st]
  simp only [hcv,hcs,h1,h2,wq,reduceCtorEq]
  rw [show ((empty,Zig s ch vs,vs.map (Zjp s ch vs),ZdD vs (atI (Zai s) s.2.2.2.1),ZdD vs (atI (Zai s) s.2.2.2.2.1)):GrT)=grS s ch vs from rfl,Z7f _ (Zz0 X hs hv)]
  simp only [wq,reduceCtorEq]
  exact ⟨fun e=>.inr ⟨vs,hv,by rw [e];rfl⟩,fun e=>.inr ⟨vs,hv,by rw [e];rfl⟩⟩
end
theorem Z6K (g:GrT) (hl:g.2.2.1.length<=900):F26 g=some (Z4R g.2.2.1):=by
 refine Ret.eq ?_
 unfold F26
 refine Zac (fun q:Int×Int=>∃ k:Nat,k<=g.2.2.1.length/\q=(Z4R (g.2.2.1.take k),(k:Int))) (fun q=>g.2.2.1.length - q.2.toNat) ?_ _ ⟨0,by omega,by simp [Z4R]⟩
 rintro _ ⟨k,hk,rfl⟩
 have hw:=Zab k (by omega)
 simp only [ZEx,wq,reduceCtorEq,hw]
 refine ⟨fun hlt=>Zaj (by omega) hlt fun x hx _=>?_,fun hge=>?_⟩
 ·rw [Zax] at hx
  have hb:=Z5a (g.2.2.1.take k)
  rw [length_take] at hb
  have hc:=(ZCf x).2.2
  simp only [(ZCf x).1,wq,reduceCtorEq]
  refine ⟨⟨k+1,by omega,?_⟩,by omega⟩
  rw [take_add_one,hx,Option.toList_some,Z4O,Zau (by omega) (by omega)]
 ·rw [take_of_length_le (by omega)]
end Go.Dat
namespace Go.Dat
open Go.Eng
theorem Zhj {a b:List Int} (hl:a.length=b.length) (h:∀ j,inR a.length j->atI a j=atI b j):a=b:=by
 apply List.ext_getElem?
 intro i
 by_cases hi:i < a.length
 ·have:=h (i:Int) ⟨by omega,by omega⟩
  unfold atI at this
  rw [toNat_natCast,getElem?_eq_getElem hi,getElem?_eq_getElem (by omega)] at this
  rw [getElem?_eq_getElem hi,getElem?_eq_getElem (by omega)]
  exact congrArg some this
 ·rw [List.getElem?_eq_none (by omega),List.getElem?_eq_none (by omega)]
def Zcp (n:Nat):List Int:=replicate n (-1)
theorem ZBm (n:Nat) (hn:n<=900000):F28 (n:Int)=some (Zcp n):=by
 refine Ret.eq ?_
 simp only [F28,wq,reduceCtorEq,toNat_natCast]
 refine ⟨fun _=>?_,fun h=>absurd h (by omega)⟩
 refine Zac (fun q:Int×List Int=>∃ k:Nat,k<=n/\q=((k:Int),replicate k (-1)++replicate (n - k) 0)) (fun q=>n - q.1.toNat) ?_ _ ⟨0,by omega,by simp⟩
 rintro _ ⟨k,hk,rfl⟩
 have hw:=Zab k (by omega)
 have hlen:(replicate k (-1:Int)++replicate (n - k) 0).length=n:=by simp;omega
 simp only [ZE8,wq,reduceCtorEq,hw,length_replicate,toNat_natCast]
 refine ⟨fun hlt=>?_,fun hge=>?_⟩
 ·rw [ZaB (l:=replicate k (-1:Int)++replicate (n - k) 0) (i:=(k:Int)) (by rw [hlen];exact ⟨by omega,hlt⟩)]
  simp only [wq,reduceCtorEq]
  refine ⟨⟨k+1,by omega,?_⟩,by omega⟩
  have e:n - k=(n - (k+1))+1:=by omega
  rw [Zcf,List.set_append_right _ _ (by simp),length_replicate,sub_self,e,List.replicate_succ,List.set_cons_zero,List.replicate_succ' (n:=k),append_assoc]
  rfl
 ·have:k=n:=by omega
  subst this
  simp [Zcp]
theorem ZAG (n:Nat) (hn:n<=900000):F23 (n:Int)=some (Zcp n):=by
 refine Ret.eq ?_
 simp only [F23,wq,reduceCtorEq,toNat_natCast]
 refine ⟨fun _=>?_,fun h=>absurd h (by omega)⟩
 refine Zac (fun q:Int×List Int=>∃ k:Nat,k<=n/\q=((k:Int),replicate k (-1)++replicate (n - k) 0)) (fun q=>n - q.1.toNat) ?_ _ ⟨0,by omega,by simp⟩
 rintro _ ⟨k,hk,rfl⟩
 have hw:=Zab k (by omega)
 have hlen:(replicate k (-1:Int)++replicate (n - k) 0).length=n:=by simp;omega
 simp only [ZyL,wq,reduceCtorEq,hw]
 refine ⟨fun hlt=>?_,fun hge=>?_⟩
 ·rw [ZaB (l:=replicate k (-1:Int)++replicate (n - k) 0) (i:=(k:Int)) (by rw [hlen];exact ⟨by omega,hlt⟩)]
  simp only [wq,reduceCtorEq]
  refine ⟨⟨k+1,by omega,?_⟩,by omega⟩
  have e:n - k=(n - (k+1))+1:=by omega
  rw [Zcf,List.set_append_right _ _ (by simp),length_replicate,sub_self,e,List.replicate_succ,List.set_cons_zero,List.replicate_succ' (n:=k),append_assoc]
  rfl
 ·have:k=n:=by omega
  subst this
  simp [Zcp]
theorem ZtN (s:Za5) (ch:List Int) (need:List Bool) (l:List Int):(lbF s ch need l).1=l.filter (fun q=>ZaJ need q)/\(lbF s ch need l).2.1=l.filter fun q=>ZaJ need q&&!decide (0<=ZaU s ch q):=by
 have key:∀ (l:List Int) (a:List Int×List Int×Int),(l.foldl (lbS s ch need) a).1=a.1++l.filter (fun q=>ZaJ need q)/\(l.foldl (lbS s ch need) a).2.1=a.2.1++l.filter fun q=>ZaJ need q&&!decide (0<=ZaU s ch q):=by
  intro l
  induction l with
  | nil=>intro a;simp
  | cons q l ih=>
   intro a
   obtain ⟨h1,h2⟩:=ih (lbS s ch need a q)
   rw [foldl_cons,h1,h2]
   unfold lbS
   by_cases e:ZaJ need q=true
   ·by_cases d:0<=ZaU s ch q
    ·simp [e,d]
    ·simp [e,d]
   ·have e':ZaJ need q=false:=by simpa using e
    simp [e']
 have:=key l ([],[],0)
 simpa [lbF] using this
section
variable {s:Za5} (X:Ctx s) {ch:List Int} (hs:Zdi s ch)
include X hs
theorem ZCD:∃ need,Zbv s ch need/\F53 (some (Zbz s)) ch=some (lbM s ch need):=by
 obtain ⟨r1,e1,need1,hN1,q1⟩:=Zk2 X hs (Q:=fun r=>∃ need,Zbv s ch need/\r=lbM s ch need) fun need hN=>(ZCO X hs hN).mono fun r _ hr=>⟨need,hN,hr⟩
 exact ⟨need1,hN1,by rw [e1,q1]⟩
theorem ZAJ:∃ need,Zbv s ch need/\F43 (Zcg s) ch=some (lbM s ch need).2:=by
 obtain ⟨r1,e1,need1,hN1,q1⟩:=Zsl X hs (Q:=fun r=>∃ need,Zbv s ch need/\r=(lbM s ch need).2) fun need hN=>(ZCP X hs hN).mono fun r _ hr=>⟨need,hN,hr⟩
 exact ⟨need1,hN1,by rw [e1,q1]⟩
theorem Zjf {q:Int}:q∈ZaW (Zai s) s.1.length↔ZfW s q:=by
 constructor
 ·exact ZmT X
 ·intro h
  unfold ZaW idN
  rw [mem_filter]
  refine ⟨mem_map.2 ⟨q.toNat,List.mem_range.2 (by have:=h.1.1;have:=h.1.2;omega),by have:=h.1.1;omega⟩,?_⟩
  simpa using h.2
theorem Zjg {need:List Bool} (hN:Zbv s ch need) {q:Int}:q∈(lbM s ch need).2.1↔Zb7 s ch q/\ZaU s ch q < 0:=by
 show q∈(lbF s ch need (ZaW (Zai s) s.1.length)).2.1↔_
 rw [(ZtN s ch need _).2,mem_filter,Zjf X hs]
 simp only [Bool.and_eq_true,Bool.not_eq_true',decide_eq_false_iff_not]
 constructor
 ·rintro ⟨h1,h2,h3⟩
  exact ⟨(hN.ok q h1.1).1 h2,by omega⟩
 ·rintro ⟨h1,h2⟩
  have:=Zb7.rep X h1
  exact ⟨this,(hN.ok q this.1).2 h1,by omega⟩
def ZdY (s:Za5) (ch:List Int) (need:List Bool):List Int:=(List.range s.1.length).map fun (j:Nat)=>if ZaJ need (j:Int)=true then ZaU s ch j else -1
theorem Zfh (need:List Bool):(ZdY s ch need).length=s.1.length:=by simp [ZdY]
theorem Zgm {need:List Bool} {j:Int} (h:inR s.1.length j):atI (ZdY s ch need) j=if ZaJ need j=true then ZaU s ch j else -1:=by
 have h1:=h.1
 have h2:j.toNat < s.1.length:=by have:=h.2;omega
 have e:((j.toNat:Nat):Int)=j:=by omega
 unfold ZdY atI
 rw [getElem?_map,getElem?_range h2]
 show (if ZaJ need ((j.toNat:Nat):Int)=true then _ else _)=_
 rw [e]
def Zsw (s:Za5) (ch:List Int):Prop:=∀ j,inR s.1.length j->0<=atI ch j->Zb7 s ch j
theorem ZtO {q:Int} (hq:inR s.1.length q) (h:ZaU s ch q < 0):atI ch q=-1:=by
 rcases hs.2 q hq with e | ⟨_,e,_⟩
 ·exact e
 ·have:=e.1;unfold ZaU at h;rw [if_pos this] at h;omega
def ZdC (s:Za5) (ch:List Int):List Int:=(List.range s.1.length).map fun (j:Nat)=>if atI (Zai s) (j:Int)=j then ZaU s ch j else atI ch j
theorem Zk6:(ZdC s ch).length=s.1.length:=by simp [ZdC]
theorem Zgn {j:Int} (h:inR s.1.length j):atI (ZdC s ch) j=if atI (Zai s) j=j then ZaU s ch j else atI ch j:=by
 have h1:=h.1
 have h2:j.toNat < s.1.length:=by have:=h.2;omega
 have e:((j.toNat:Nat):Int)=j:=by omega
 unfold ZdC atI
 rw [getElem?_map,getElem?_range h2]
 show (if (Zai s)[((j.toNat:Nat):Int).toNat]?.getD 0=((j.toNat:Nat):Int) then _ else _)=_
 rw [e]
theorem ZEM:F44 (Zcg s) ch=some (ZdC s ch):=by
 have hn:=X.n
 have hcl:=hs.1
 refine Ret.eq ?_
 simp only [F44,wq,reduceCtorEq]
 refine ⟨fun _=>?_,fun h=>absurd h (by omega)⟩
 refine Zac (fun q:Int×List Int=>∃ (k:Nat) (out:List Int),q=((k:Int),out)/\k<=s.1.length/\out.length=s.1.length/\∀ j,inR s.1.length j->atI out j=if j < k then atI (ZdC s ch) j else atI ch j) (fun q=>s.1.length - q.1.toNat) ?_ _ ⟨0,ch,rfl,by omega,hcl,fun j hj=>by rw [if_neg (by have:=hj.1;omega)]⟩
 rintro _ ⟨k,out,rfl,hk,hol,hO⟩
 have hw:=Zab k (by omega)
 simp only [ZDT,Zyn,wq,reduceCtorEq,hw,hol]
 refine ⟨fun hlt=>?_,fun hge=>?_⟩
 ·have hkr:inR s.1.length (k:Int):=⟨by omega,hlt⟩
  have hko:inR out.length (k:Int):=by rw [hol];exact hkr
  have hcg:gI (Zcg s).2.1 (k:Int)=some (atI (Zai s) k):=X.cget hkr
  simp only [hcg,ZbF X hs.1 hkr,ZaB hko,wq,reduceCtorEq]
  have hck:=Zgn X hs hkr
  refine ⟨fun e=>⟨⟨k+1,_,rfl,by omega,by rw [Zay];exact hol,fun j hj=>?_⟩,by omega⟩,fun e=>⟨⟨k+1,out,rfl,by omega,hol,fun j hj=>?_⟩,by omega⟩⟩
  ·rw [Za3 hko hj.1]
   split
   ·subst ‹j=_›;rw [if_pos (by omega),hck,if_pos e]
   ·rw [hO j hj]
    by_cases h:j < k
    ·rw [if_pos h,if_pos (by omega)]
    ·rw [if_neg h,if_neg (by omega)]
  ·rw [hO j hj]
   by_cases h:j < k
   ·rw [if_pos h,if_pos (by omega)]
   ·rw [if_neg h]
    by_cases h2:j=k
    ·subst h2;rw [if_pos (by omega),hck,if_neg e]
    ·rw [if_neg (by omega)]
 ·refine Zhj (by rw [hol,Zk6 X hs]) fun j hj=>?_
  rw [hol] at hj
  rw [hO j hj,if_pos (by have:=hj.2;omega)]
theorem Zhk:Zdi s (ZdC s ch):=by
 refine ⟨Zk6 X hs,fun j hj=>?_⟩
 rw [Zgn X hs hj]
 split
 ·rename_i e
  by_cases h:0<=ZaU s ch j
  ·obtain ⟨h1,h2⟩:=Zct X hs hj h
   exact .inr ⟨e,h1,h2⟩
  ·refine .inl ?_
   have h0:=ZtO X hs hj (by omega)
   unfold ZaU at h |-
   rw [if_neg (by omega)] at h |-
   split
   ·rename_i h1
    rw [if_pos h1] at h
    have:=(X.cI.mem j hj _ (Zqp (l:=Zaw (Zaz s) j) (i:=0) ⟨by omega,by omega⟩)).1.1
    omega
   ·rfl
 ·exact hs.2 j hj
theorem Zq3 {need:List Bool} (hN:Zbv s ch need):Zdi s (ZdY s ch need):=by
 refine ⟨Zfh X hs _,fun j hj=>?_⟩
 rw [Zgm X hs hj]
 split
 ·rename_i e
  have hr:=Zb7.rep X ((hN.ok j hj).1 e)
  have:=(Zhk X hs).2 j hj
  rw [Zgn X hs hj,if_pos hr.2] at this
  exact this
 ·exact .inl rfl
end
mutual
theorem Po.rs {s:Za5} {a:List Int} {c:Int} {vs ws:List Int}:Po s a c vs ws->RS s a c->(∀ q∈vs,RS s a q)->∀ q∈ws,RS s a q
 | .seen _,_,hv=>hv
 | .new _ h0 hl _,hc,hv=>fun q hq=>by
  rcases mem_append.1 hq with hq | hq
  ·exact PoL.rs hl (fun p hp=>.step hc ⟨h0,hp⟩) hv q hq
  ·rw [mem_singleton.1 hq];exact hc
theorem PoL.rs {s:Za5} {a ps vs ws:List Int}:PoL s a ps vs ws->(∀ p∈ps,RS s a p)->(∀ q∈vs,RS s a q)->∀ q∈ws,RS s a q
 | .nil,_,hv=>hv
 | .cons h1 h2,hp,hv=>PoL.rs h2 (fun p hm=>hp p (mem_cons_of_mem _ hm)) (Po.rs h1 (hp _ (by simp)) hv)
end
theorem Zsx {s:Za5} {a b:List Int} (h:∀ q,RS s a q->atI a q=atI b q) {q:Int} (hq:RS s a q):RS s b q:=by
 induction hq with
 | val=>exact .val
 | st=>exact .st
 | step h1 e ih=>
  have:=h _ h1
  exact .step ih ⟨by rw [<-this];exact e.1,by rw [<-this];exact e.2⟩
section
variable {s:Za5} {a b:List Int} (h:∀ q,RS s a q->atI a q=atI b q)
include h
theorem Z67 {q:Int} (hq:RS s b q):RS s a q:=by
 induction hq with
 | val=>exact .val
 | st=>exact .st
 | step h1 e ih=>
  have:=h _ ih
  exact .step ih ⟨by rw [this];exact e.1,by rw [this];exact e.2⟩
theorem Zq4 (hb:Zqx s a):Zqx s b:=by
 obtain ⟨q,hq,hb⟩:=hb
 refine ⟨q,Zsx h hq,?_⟩
 rcases hb with hb | ⟨p,e,hp⟩
 ·exact .inl (by rw [<-h q hq];exact hb)
 ·have he:EdS s b q p:=⟨by rw [<-h q hq];exact e.1,by rw [<-h q hq];exact e.2⟩
  refine .inr ⟨p,he,?_⟩
  have hrp:RS s a p:=.step hq e
  have key:∀ {x:Int},ZnS s a p x->ZnS s b p x/\RS s a x:=fun hx=>by
   induction hx with
   | refl=>exact ⟨.refl,hrp⟩
   | snoc _ e' ih=>
    obtain ⟨i1,i2⟩:=ih
    exact ⟨i1.snoc ⟨by rw [<-h _ i2];exact e'.1,by rw [<-h _ i2];exact e'.2⟩,.step i2 e'⟩
  exact (key hp).1
mutual
theorem Po.agree {c:Int} {vs ws:List Int}:Po s a c vs ws->RS s a c->Po s b c vs ws
 | .seen hm,_=>.seen hm
 | .new hm h0 hl hn,hc=>by
  have e:=h c hc
  refine .new hm (by rw [<-e];exact h0) ?_ hn
  rw [<-e]
  exact PoL.agree hl fun p hp=>.step hc ⟨h0,hp⟩
theorem PoL.agree {ps vs ws:List Int}:PoL s a ps vs ws->(∀ p∈ps,RS s a p)->PoL s b ps vs ws
 | .nil,_=>.nil
 | .cons h1 h2,hp=>.cons (Po.agree h1 (hp _ (by simp))) (PoL.agree h2 fun p hm=>hp p (mem_cons_of_mem _ hm))
end
theorem PoR.agree {vs:List Int} (hv:PoR s a vs):PoR s b vs/\grS s a vs=grS s b vs:=by
 have hroots:∀ p∈[atI (Zai s) s.2.2.2.1,atI (Zai s) s.2.2.2.2.1],RS s a p:=fun p hp=>by
  rcases mem_cons.1 hp with rfl | hp
  ·exact .val
  ·rw [mem_singleton.1 hp];exact .st
 have hrs:=PoL.rs hv.po hroots (fun q hq=>by cases hq)
 refine ⟨⟨⟨hv.nd,fun q hq=>?_⟩,PoL.agree h hv.po hroots,hv.va,hv.st,hv.len⟩,?_⟩
 ·obtain ⟨h1,h2,h3⟩:=hv.sel q hq
  rw [<-h q (hrs q hq)]
  exact ⟨h1,h2,h3⟩
 ·have e1:∀ q∈vs,Zjp s a vs q=Zjp s b vs q:=fun q hq=>by unfold Zjp;rw [h q (hrs q hq)]
  have e2:Zig s a vs=Zig s b vs:=by
   have key:∀ (l:List Int) (m:Int),(∀ q∈l,RS s a q)->l.foldl (ZkA s a) m=l.foldl (ZkA s b) m:=by
    intro l
    induction l with
    | nil=>intro m _;rfl
    | cons q l ih=>
     intro m hl
     rw [foldl_cons,foldl_cons,ih _ (fun p hp=>hl p (mem_cons_of_mem _ hp))]
     have:ZkA s a m q=ZkA s b m q:=by unfold ZkA;rw [h q (hl q (by simp))]
     rw [this]
   exact key vs 0 hrs
  unfold grS
  rw [e2,map_congr_left e1]
end
theorem Zq0.agree {s:Za5} {a b:List Int} (h:∀ q,RS s a q->atI a q=atI b q) {r:GrT×Bool} (hr:Zq0 s a r):Zq0 s b r:=by
 rcases hr with ⟨hb,rfl⟩ | ⟨vs,hv,rfl⟩
 ·exact .inl ⟨Zq4 h hb,rfl⟩
 ·obtain ⟨h1,h2⟩:=hv.agree h
  exact .inr ⟨vs,h1,by rw [h2]⟩
end Go.Dat
namespace Go.Dat
open Go.Eng
structure ZnH (s:Za5) (w:List Int) (n0:List Bool) (more:Bool) (need:List Bool) (D:Int->Nat->Prop):Prop where
 len:need.length=s.1.length
 sd:∀ q,inR s.1.length q->ZaJ need q=true->RS s w q
 mono:∀ q,0<=q->ZaJ n0 q=true->ZaJ need q=true
 on:more=true->Zid need < Zid n0
 off:more=false->need=n0/\∀ c k p,D c k->inR s.1.length c->ZaJ n0 c=true->(Zbh s (atI w c))[k]?=some p->ZaJ n0 p=true
theorem ZnH.le {s:Za5} {w:List Int} {n0:List Bool} {more:Bool} {need:List Bool} {D:Int->Nat->Prop} (h:ZnH s w n0 more need D):Zid need<=Zid n0:=by
 cases more with
 | true=>exact Nat.le_of_lt (h.on rfl)
 | false=>rw [(h.off rfl).1];exact le_refl _
theorem Zz6 {s:Za5} (X:Ctx s) {w:List Int} (hs:Zdi s w) (hall:∀ q,RS s w q->0<=atI w q) :
 Ret (F45 (Zcg s) w) fun out=>out.length=s.1.length/\∀ j,inR s.1.length j->(RS s w j->atI out j=atI w j)/\(¬ RS s w j->atI out j=-1):=by
 have hn:=X.n
 have hwl:=hs.1
 have hv:=X.ci.rng X.v.va
 have ht:=X.ci.rng X.v.st
 have hcv:gI (Zcg s).2.1 (Zcg s).1.2.2.2.1=some (atI (Zai s) s.2.2.2.1):=X.cget X.v.va
 have hcs:gI (Zcg s).2.1 (Zcg s).1.2.2.2.2.1=some (atI (Zai s) s.2.2.2.2.1):=X.cget X.v.st
 have l0:(replicate s.1.length false).length=s.1.length:=by simp
 have hv0:inR (replicate s.1.length false).length (atI (Zai s) s.2.2.2.1):=by rw [l0];exact hv
 have ht0:inR (Zaq (replicate s.1.length false) (atI (Zai s) s.2.2.2.1) true).length (atI (Zai s) s.2.2.2.2.1):=by rw [Zay,l0];exact ht
 simp only [F45,wq,reduceCtorEq,hwl,toNat_natCast,hcv,hcs,Zbj hv0,Zbj ht0]
 refine ⟨fun _=>?_,fun h=>absurd h (by omega)⟩
 refine Zac (fun q:Bool×List Bool=>q.2.length=s.1.length/\(∀ c,inR s.1.length c->ZaJ q.2 c=true->RS s w c)/\ZaJ q.2 (atI (Zai s) s.2.2.2.1)=true/\ZaJ q.2 (atI (Zai s) s.2.2.2.2.1)=true/\(q.1=false->∀ c p,inR s.1.length c->ZaJ q.2 c=true->p∈Zbh s (atI w c)->ZaJ q.2 p=true)) (fun q=>bif q.1 then Zid q.2+1 else 0) ?_ _ ⟨by rw [Zay,Zay,l0],fun c hc h=>?_,?_,?_,fun h=>by cases h⟩
 ·rintro ⟨more,n0⟩ ⟨hl,hsd,h1,h2,hc⟩
  dsimp only at hl hsd h1 h2 hc
  cases more with
  | false=>
   have hiff:∀ c,inR s.1.length c->(ZaJ n0 c=true↔RS s w c):=fun c hcr=>by
    refine ⟨hsd c hcr,fun h=>?_⟩
    clear hcr
    induction h with
    | val=>exact h1
    | st=>exact h2
    | step h e ih=>exact hc rfl _ _ (RS.rep X hs h).1 ih e.2
   simp only [Z8k,wq,reduceCtorEq,hwl]
   refine ⟨fun _=>?_,fun h=>absurd h (by omega)⟩
   refine Zac (fun q:Int×List Bool×List Int=>∃ (k:Nat) (out:List Int),q=((k:Int),n0,out)/\k<=s.1.length/\out.length=s.1.length/\∀ j,inR s.1.length j->atI out j=if j < k/\ZaJ n0 j=false then -1 else atI w j) (fun q=>s.1.length - q.1.toNat) ?_ _ ⟨0,w,rfl,by omega,hwl,fun j hj=>by rw [if_neg (fun h=>by have:=hj.1;omega)]⟩
   rintro _ ⟨k,out,rfl,hk,hol,hO⟩
   have hw:=Zab k (by omega)
   simp only [ZDY,ZDX,wq,reduceCtorEq,hw,hol]
   refine ⟨fun hlt=>?_,fun hge j hj=>?_⟩
   ·have hkr:inR s.1.length (k:Int):=⟨by omega,hlt⟩
    have hko:inR out.length (k:Int):=by rw [hol];exact hkr
    have hkn:inR n0.length (k:Int):=by rw [hl];exact hkr
    simp only [Zbj hkn,ZaB hko,wq,reduceCtorEq]
    refine ⟨fun e=>⟨⟨k+1,_,rfl,by omega,by rw [Zay];exact hol,fun j hj=>?_⟩,by omega⟩,fun e=>⟨⟨k+1,out,rfl,by omega,hol,fun j hj=>?_⟩,by omega⟩⟩
    ·rw [Za3 hko hj.1]
     split
     ·subst ‹j=_›;rw [if_pos ⟨by omega,e⟩]
     ·rw [hO j hj]
      by_cases h:j < k
      ·by_cases h2:ZaJ n0 j=false
       ·rw [if_pos ⟨h,h2⟩,if_pos ⟨by omega,h2⟩]
       ·rw [if_neg (fun x=>h2 x.2),if_neg (fun x=>h2 x.2)]
      ·rw [if_neg (fun x=>h x.1),if_neg (fun x=>by omega)]
    ·rw [hO j hj]
     by_cases h:j=k
     ·subst h;rw [if_neg (fun x=>by omega),if_neg (fun x=>by rw [e] at x;cases x.2)]
     ·by_cases h2:j < k/\ZaJ n0 j=false
      ·rw [if_pos h2,if_pos ⟨by omega,h2.2⟩]
      ·rw [if_neg h2,if_neg (fun x=>h2 ⟨by omega,x.2⟩)]
   ·have hjk:j < k:=by have:=hj.2;omega
    rw [hO j hj]
    refine ⟨fun h=>?_,fun h=>?_⟩
    ·have:=(hiff j hj).2 h
     rw [if_neg (fun x=>by rw [this] at x;cases x.2)]
    ·have:ZaJ n0 j=false:=by
      cases hb:ZaJ n0 j
      ·rfl
      ·exact absurd ((hiff j hj).1 hb) h
     rw [if_pos ⟨hjk,this⟩]
  | true=>
   simp only [Z8k,wq,reduceCtorEq,cond_true]
   refine Zac (fun q:Bool×Int×List Bool=>∃ c:Nat,q.2.1=c/\c<=s.1.length/\ZnH s w n0 q.1 q.2.2 (fun a _=>a < c)) (fun q=>s.1.length - q.2.1.toNat) ?_ _ ⟨0,rfl,by omega,hl,hsd,(fun _ _ h=>h),(fun h=>by cases h),fun _=>⟨rfl,fun c k p h hcr=>by have:=hcr.1;omega⟩⟩
   rintro ⟨more,_,need⟩ ⟨c,rfl,hck,hp⟩
   dsimp only at hp
   have hw:=Zab c (by omega)
   simp only [ZDW,wq,reduceCtorEq,hwl]
   refine ⟨fun hlt=>?_,fun hge=>?_⟩
   ·have hcr:inR s.1.length (c:Int):=⟨by omega,hlt⟩
    refine Zac (fun q:Bool×Int×List Bool=>∃ k:Nat,q.2.1=k/\k<=1000/\ZnH s w n0 q.1 q.2.2 (fun a b=>a < c\/a=c/\b < k)) (fun q=>1000 - q.2.1.toNat) ?_ _ ⟨0,rfl,by omega,hp.len,hp.sd,hp.mono,hp.on,fun h=>⟨(hp.off h).1,fun a k p hd=>(hp.off h).2 a k p (by omega)⟩⟩
    rintro ⟨more,_,need⟩ ⟨k,rfl,hk,hp⟩
    dsimp only at hp
    have hw2:=Zab k (by omega)
    have hgc:gI need (c:Int)=some (ZaJ need c):=Zbj (by rw [hp.len];exact hcr)
    have hgw:gI w (c:Int)=some (atI w c):=ZaB (by rw [hwl];exact hcr)
    simp only [ZDV,Z8G,ZDU,hgc,hgw,wq,reduceCtorEq,hw,hw2]
    have skip:(ZaJ need (c:Int)=true->∀ k',k<=k'->(Zbh s (atI w c))[k']?=none)->∃ c':Nat,((c+1:Nat):Int)=c'/\c'<=s.1.length/\ZnH s w n0 more need (fun a _=>a < c'):=fun hno=>
     ⟨c+1,rfl,by omega,hp.len,hp.sd,hp.mono,hp.on,fun h=>⟨(hp.off h).1,fun a b p hd ha hg hq=>by
      by_cases e:a < c
      ·exact (hp.off h).2 a b p (.inl e) ha hg hq
      ·obtain rfl:a=c:=by omega
       by_cases e2:b < k
       ·exact (hp.off h).2 _ b p (.inr ⟨rfl,e2⟩) ha hg hq
       ·rw [hno (by rw [(hp.off h).1];exact hg) b (by omega)] at hq;cases hq⟩⟩
    refine ⟨fun hg=>?_,fun hg=>⟨skip fun h=>(by rw [hg] at h;cases h),by omega⟩⟩
    have hrs:=hp.sd _ hcr hg
    have hdr:=Zf4 X hs hcr (hall _ hrs)
    have hkl:=X.kids.k _ (Zav hdr)
    have hkr:=X.kids.r _ (Zav hdr)
    have hnd:gI (Zcg s).1.1 (atI w c)=some (Zar s.1 (atI w c)):=Za2 hdr
    simp only [hnd,wq,reduceCtorEq]
    refine ⟨fun hlt2=>Zaj (by omega) hlt2 fun y hy hym=>?_,fun hge2=>⟨skip fun _ k' hk'=>List.getElem?_eq_none (by rw [Zbw X];omega),by omega⟩⟩
    have hyr:=hkr y hym
    have hcy:gI (Zcg s).2.1 y=some (atI (Zai s) y):=X.cget hyr
    have hpl:inR need.length (atI (Zai s) y):=by rw [hp.len];exact X.ci.rng hyr
    rw [Zax] at hy
    have hgk:=ZbV X hy
    simp only [hcy,Zbj hpl,wq,reduceCtorEq]
    have next:ZaJ need (atI (Zai s) y)=true->∃ k':Nat,((k+1:Nat):Int)=k'/\k'<=1000/\ZnH s w n0 more need (fun a b=>a < c\/a=c/\b < k'):=fun hh=>
     ⟨k+1,rfl,by omega,hp.len,hp.sd,hp.mono,hp.on,fun h=>⟨(hp.off h).1,fun a b p hd ha hga hq=>by
      by_cases e:a < c\/a=c/\b < k
      ·exact (hp.off h).2 a b p e ha hga hq
      ·obtain rfl:a=c:=by omega
       obtain rfl:b=k:=by omega
       rw [hgk] at hq;obtain rfl:=inj hq
       rw [<-(hp.off h).1];exact hh⟩⟩
    refine ⟨fun e=>⟨⟨k+1,rfl,by omega,by rw [Zay];exact hp.len,fun q hq h=>?_,fun q h0 h=>?_,fun _=>?_,fun h=>by cases h⟩,by omega⟩,fun e=>⟨next e,by omega⟩⟩
    ·rw [ZaN hpl hq.1] at h
     split at h
     ·subst ‹q=_›;exact .step hrs ⟨hall _ hrs,mem_of_getElem? hgk⟩
     ·exact hp.sd q hq h
    ·rw [ZaN hpl h0];split
     ·rfl
     ·exact hp.mono q h0 h
    ·have:=Zgk hpl e
     have:=hp.le
     omega
   ·refine ⟨⟨hp.len,hp.sd,hp.mono _ hv.1 h1,hp.mono _ ht.1 h2,fun h=>?_⟩,?_⟩
    ·obtain ⟨e1,e2⟩:=hp.off h
     intro c' p hc' hg hq
     rw [e1] at hg |-
     obtain ⟨k,hk⟩:=getElem?_of_mem hq
     exact e2 c' k p (by have:=hc'.2;omega) hc' hg hk
    ·cases more with
     | true=>have:=hp.on rfl;simp only [cond_true];omega
     | false=>simp only [cond_true,cond_false];omega
 ·rw [ZaN ht0 hc.1] at h
  split at h
  ·subst ‹c=_›;exact .st
  ·rw [ZaN hv0 hc.1] at h
   split at h
   ·subst ‹c=_›;exact .val
   ·rw [Zeq] at h;cases h
 ·rw [ZaN ht0 hv.1]
  split
  ·rfl
  ·rw [ZaN hv0 hv.1,if_pos rfl]
 ·rw [ZaN ht0 ht.1,if_pos rfl]
section
variable {s:Za5} (X:Ctx s) {ch:List Int} (hs:Zdi s ch) {need:List Bool} (hN:Zbv s ch need) (hD:Zsw s ch) (ho:(lbM s ch need).2.1=[])
include X hs hN hD ho
theorem Zlu {q:Int} (h:Zb7 s ch q):0<=ZaU s ch q:=by
 by_cases h2:0<=ZaU s ch q
 ·exact h2
 ·have:=(Zjg X hs hN).2 ⟨h,by omega⟩
  rw [ho] at this;cases this
theorem Zes {q:Int} (h:Zb7 s ch q):atI (ZdC s ch) q=ZaU s ch q:=by
 have hr:=Zb7.rep X h
 rw [Zgn X hs hr.1,if_pos hr.2]
theorem Zgo {q:Int}:RS s (ZdC s ch) q↔Zb7 s ch q:=by
 constructor
 ·intro h
  induction h with
  | val=>exact .val
  | st=>exact .st
  | step h1 e ih=>
   have hd:=Zlu X hs hN hD ho ih
   have e2:=e.2
   rw [Zes X hs hN hD ho ih] at e2
   exact .step ih (by unfold ZfX;rw [if_pos hd];exact e2) (Zdf X (Zct X hs (Zb7.rep X ih).1 hd).1 e2)
 ·intro h
  induction h with
  | val=>exact .val
  | st=>exact .st
  | step h1 h2 h3 ih=>
   have hd:=Zlu X hs hN hD ho h1
   unfold ZfX at h2
   rw [if_pos hd] at h2
   exact .step ih ⟨by rw [Zes X hs hN hD ho h1];exact hd,by rw [Zes X hs hN hD ho h1];exact h2⟩
theorem Zsy {q:Int} (h:RS s (ZdC s ch) q):0<=atI (ZdC s ch) q:=by
 have h:=(Zgo X hs hN hD ho).1 h
 rw [Zes X hs hN hD ho h];exact Zlu X hs hN hD ho h
theorem ZnI:F45 (Zcg s) (ZdC s ch)=some (ZdY s ch need):=by
 obtain ⟨out,e,h1,h2⟩:=Zz6 X (Zhk X hs) fun q h=>Zsy X hs hN hD ho h
 rw [e]
 congr 1
 refine Zhj (by rw [h1,Zfh X hs]) fun j hj=>?_
 rw [h1] at hj
 rw [Zgm X hs hj]
 by_cases hr:Zb7 s ch j
 ·rw [(h2 j hj).1 ((Zgo X hs hN hD ho).2 hr),if_pos ((hN.ok j hj).2 hr),Zes X hs hN hD ho hr]
 ·rw [(h2 j hj).2 (fun h=>hr ((Zgo X hs hN hD ho).1 h)),if_neg (fun h=>hr ((hN.ok j hj).1 h))]
theorem Zq5 {q:Int} (h:RS s (ZdC s ch) q):atI (ZdC s ch) q=atI (ZdY s ch need) q:=by
 have hr:=(Zgo X hs hN hD ho).1 h
 have hrep:=Zb7.rep X hr
 rw [Zgm X hs hrep.1,if_pos ((hN.ok q hrep.1).2 hr),Zes X hs hN hD ho hr]
theorem Zii:∃ r,Zq0 s (ZdY s ch need) r/\F25 (some (Zbz s)) (ZdY s ch need)=some r/\F37 (Zcg s) (ZdC s ch)=some r:=by
 obtain ⟨r,e,hr⟩:=Z89 X (Zq3 X hs hN)
 obtain ⟨r',e',hr'⟩:=ZBi X (Zhk X hs)
 have:=hr.uniq (hr'.agree fun q h=>Zq5 X hs hN hD ho h)
 subst this
 exact ⟨r,hr,e,e'⟩
end
structure SrS where
 steps:Nat
 found:Bool
 best:List Int
 cost:Int
def SrS.tick (σ:SrS):SrS:=⟨σ.steps+1,σ.found,σ.best,σ.cost⟩
def ZvP (σ:SrS) (c:Int):Prop:=σ.found=true/\σ.cost<=c
mutual
inductive Vs (s:Za5) (most:Nat):List Int->SrS->Zbb->SrS->Prop
 | inf {ch:List Int} {σ:SrS} {need:List Bool}:σ.steps < most->Zbv s ch need->(lbM s ch need).2.2.2=false->Vs s most ch σ (.mk 2 0 []) σ.tick
 | cut {ch:List Int} {σ:SrS} {need:List Bool}:σ.steps < most->Zbv s ch need->(lbM s ch need).2.2.2=true->ZvP σ (lbM s ch need).2.2.1->Vs s most ch σ (.mk 1 0 []) σ.tick
 | bad {ch:List Int} {σ:SrS} {need:List Bool} {g:GrT}:σ.steps < most->Zbv s ch need->(lbM s ch need).2.2.2=true->¬ ZvP σ (lbM s ch need).2.2.1->(lbM s ch need).2.1=[]->Zq0 s (ZdY s ch need) (g,false)->Vs s most ch σ (.mk 2 0 []) σ.tick
 | leaf {ch:List Int} {σ:SrS} {need:List Bool} {g:GrT}:σ.steps < most->Zbv s ch need->(lbM s ch need).2.2.2=true->¬ ZvP σ (lbM s ch need).2.2.1->(lbM s ch need).2.1=[]->Zq0 s (ZdY s ch need) (g,true)->Vs s most ch σ (.mk 1 0 []) ⟨σ.steps+1,true,ZdY s ch need,(lbM s ch need).2.2.1⟩
 | br {ch:List Int} {σ:SrS} {need:List Bool} {c:Int} {rest:List Int} {kids:List Zbb} {σ':SrS}:σ.steps < most->Zbv s ch need->(lbM s ch need).2.2.2=true->¬ ZvP σ (lbM s ch need).2.2.1->(lbM s ch need).2.1=c::rest->VsL s most ch c (Zaw (Zaz s) c) σ.tick kids σ'->Vs s most ch σ (.mk 3 c kids) σ'
inductive VsL (s:Za5) (most:Nat):List Int->Int->List Int->SrS->List Zbb->SrS->Prop
 | nil {ch:List Int} {c:Int} {σ:SrS}:VsL s most ch c [] σ [] σ
 | cons {ch:List Int} {c f:Int} {fs:List Int} {t:Zbb} {ts:List Zbb} {σ σ1 σ2:SrS}:Vs s most (Zaq ch c f) σ t σ1->VsL s most ch c fs σ1 ts σ2->VsL s most ch c (f::fs) σ (t::ts) σ2
end
inductive Ex (s:Za5) (most:Nat):List Int->SrS->Prop
 | now {ch:List Int} {σ:SrS}:most<=σ.steps->Ex s most ch σ
 | br {ch:List Int} {σ σ1:SrS} {need:List Bool} {c f:Int} {rest l1 l2:List Int} {ts:List Zbb}:σ.steps < most->Zbv s ch need->(lbM s ch need).2.2.2=true->¬ ZvP σ (lbM s ch need).2.2.1->(lbM s ch need).2.1=c::rest->Zaw (Zaz s) c=l1++f::l2->VsL s most ch c l1 σ.tick ts σ1->Ex s most (Zaq ch c f) σ1->Ex s most ch σ
theorem VsL.snoc {s:Za5} {most:Nat} {ch:List Int} {c f:Int} {t:Zbb} {σ2:SrS}:∀ {l:List Int} {σ:SrS} {ts:List Zbb} {σ1:SrS},VsL s most ch c l σ ts σ1->Vs s most (Zaq ch c f) σ1 t σ2->VsL s most ch c (l++[f]) σ (ts++[t]) σ2
 | [],_,_,_,.nil,h=>.cons h .nil
 | _::_,_,_,_,.cons h1 h2,h=>.cons h1 (h2.snoc h)
mutual
theorem Vs.det {s:Za5} {most:Nat} {ch:List Int} {σ:SrS} {t t':Zbb} {σ1 σ2:SrS}:Vs s most ch σ t σ1->Vs s most ch σ t' σ2->t=t'/\σ1=σ2
 | .inf _ n1 a1,h'=>by
  cases h' with
  | inf _ _ _=>exact ⟨rfl,rfl⟩
  | cut _ n2 a2 _=>obtain rfl:=n1.uniq n2;rw [a1] at a2;cases a2
  | bad _ n2 a2 _ _ _=>obtain rfl:=n1.uniq n2;rw [a1] at a2;cases a2
  | leaf _ n2 a2 _ _ _=>obtain rfl:=n1.uniq n2;rw [a1] at a2;cases a2
  | br _ n2 a2 _ _ _=>obtain rfl:=n1.uniq n2;rw [a1] at a2;cases a2
 | .cut _ n1 a1 c1,h'=>by
  cases h' with
  | inf _ n2 a2=>obtain rfl:=n1.uniq n2;rw [a1] at a2;cases a2
  | cut _ _ _ _=>exact ⟨rfl,rfl⟩
  | bad _ n2 _ c2 _ _=>obtain rfl:=n1.uniq n2;exact absurd c1 c2
  | leaf _ n2 _ c2 _ _=>obtain rfl:=n1.uniq n2;exact absurd c1 c2
  | br _ n2 _ c2 _ _=>obtain rfl:=n1.uniq n2;exact absurd c1 c2
 | .bad _ n1 a1 c1 o1 b1,h'=>by
  cases h' with
  | inf _ n2 a2=>obtain rfl:=n1.uniq n2;rw [a1] at a2;cases a2
  | cut _ n2 _ c2=>obtain rfl:=n1.uniq n2;exact absurd c2 c1
  | bad _ _ _ _ _ _=>exact ⟨rfl,rfl⟩
  | leaf _ n2 _ _ _ b2=>obtain rfl:=n1.uniq n2;have:=b1.uniq b2;cases this
  | br _ n2 _ _ o2 _=>obtain rfl:=n1.uniq n2;rw [o1] at o2;cases o2
 | .leaf _ n1 a1 c1 o1 b1,h'=>by
  cases h' with
  | inf _ n2 a2=>obtain rfl:=n1.uniq n2;rw [a1] at a2;cases a2
  | cut _ n2 _ c2=>obtain rfl:=n1.uniq n2;exact absurd c2 c1
  | bad _ n2 _ _ _ b2=>obtain rfl:=n1.uniq n2;have:=b1.uniq b2;cases this
  | leaf _ n2 _ _ _ _=>obtain rfl:=n1.uniq n2;exact ⟨rfl,rfl⟩
  | br _ n2 _ _ o2 _=>obtain rfl:=n1.uniq n2;rw [o1] at o2;cases o2
 | .br _ n1 a1 c1 o1 l1,h'=>by
  cases h' with
  | inf _ n2 a2=>obtain rfl:=n1.uniq n2;rw [a1] at a2;cases a2
  | cut _ n2 _ c2=>obtain rfl:=n1.uniq n2;exact absurd c2 c1
  | bad _ n2 _ _ o2 _=>obtain rfl:=n1.uniq n2;rw [o1] at o2;cases o2
  | leaf _ n2 _ _ o2 _=>obtain rfl:=n1.uniq n2;rw [o1] at o2;cases o2
  | br _ n2 _ _ o2 l2=>
   obtain rfl:=n1.uniq n2
   rw [o1] at o2
   cases o2
   obtain ⟨rfl,rfl⟩:=VsL.det l1 l2
   exact ⟨rfl,rfl⟩
theorem VsL.det {s:Za5} {most:Nat} {ch:List Int} {c:Int} {l:List Int} {σ:SrS} {t t':List Zbb} {σ1 σ2:SrS}:VsL s most ch c l σ t σ1->VsL s most ch c l σ t' σ2->t=t'/\σ1=σ2
 | .nil,.nil=>⟨rfl,rfl⟩
 | .cons h1 h2,h'=>by
  cases h' with
  | cons g1 g2=>
   obtain ⟨rfl,rfl⟩:=Vs.det h1 g1
   obtain ⟨rfl,rfl⟩:=VsL.det h2 g2
   exact ⟨rfl,rfl⟩
end
theorem VsL.split {s:Za5} {most:Nat} {ch:List Int} {c f:Int} {l2:List Int}:∀ {l1:List Int} {σ σ1:SrS} {ts:List Zbb},VsL s most ch c (l1++f::l2) σ ts σ1->∃ ts1 σ2 t σ3,VsL s most ch c l1 σ ts1 σ2/\Vs s most (Zaq ch c f) σ2 t σ3
 | [],_,_,_,.cons h1 _=>⟨_,_,_,_,.nil,h1⟩
 | _::_,_,_,_,.cons h1 h2=>by
  obtain ⟨ts1,σ2,t,σ3,a,b⟩:=h2.split
  exact ⟨_,_,_,_,.cons h1 a,b⟩
theorem Ex.no {s:Za5} {most:Nat} {ch:List Int} {σ:SrS} (h:Ex s most ch σ):∀ t σ',¬ Vs s most ch σ t σ':=by
 induction h with
 | now h=>
  intro t σ' hv
  cases hv<;>omega
 | br h n1 a1 c1 o1 hr hl _ ih=>
  intro t σ' hv
  cases hv with
  | inf _ n2 a2=>obtain rfl:=n1.uniq n2;rw [a1] at a2;cases a2
  | cut _ n2 _ c2=>obtain rfl:=n1.uniq n2;exact absurd c2 c1
  | bad _ n2 _ _ o2 _=>obtain rfl:=n1.uniq n2;rw [o1] at o2;cases o2
  | leaf _ n2 _ _ o2 _=>obtain rfl:=n1.uniq n2;rw [o1] at o2;cases o2
  | br _ n2 _ _ o2 l2=>
   obtain rfl:=n1.uniq n2
   rw [o1] at o2
   cases o2
   rw [hr] at l2
   obtain ⟨ts1,σ2,t,σ3,a,b⟩:=l2.split
   obtain ⟨_,rfl⟩:=hl.det a
   exact ih _ _ b
def ZtP (s:Za5) (ch:List Int):Nat:=(ZaW (Zai s) s.1.length).countP fun q=>decide (ZaU s ch q < 0)
theorem Zk7 {p q:Int->Bool}:∀ {l:List Int},(∀ x∈l,p x=true->q x=true)->(∃ x∈l,q x=true/\p x=false)->l.countP p < l.countP q
 | [],_,h=>by obtain ⟨x,hx,_⟩:=h;cases hx
 | y::l,h1,h2=>by
  have hle:l.countP p<=l.countP q:=List.countP_mono_left fun x hx hp=>h1 x (mem_cons_of_mem _ hx) hp
  rw [List.countP_cons,List.countP_cons]
  obtain ⟨x,hx,hq,hp⟩:=h2
  rcases mem_cons.1 hx with rfl | hx
  ·rw [hq,hp];simp;omega
  ·have ih:=Zk7 (l:=l) (fun x hx=>h1 x (mem_cons_of_mem _ hx)) ⟨x,hx,hq,hp⟩
   cases hy:p y
   ·cases q y<;>simp<;>omega
   ·rw [h1 y (by simp) hy];simp;omega
theorem ZtQ (t:Zbb):Zbb.mk (ZfP t).1 (ZfP t).2.1 (ZfP t).2.2=t:=by cases t;rfl
section
variable {s:Za5} (X:Ctx s) {ch:List Int} (hs:Zdi s ch) (hD:Zsw s ch) {need:List Bool} (hN:Zbv s ch need) {c:Int} {rest:List Int} (ho:(lbM s ch need).2.1=c::rest) {f:Int} (hf:f∈Zaw (Zaz s) c)
include X hs hD hN ho
theorem ZfM:Zb7 s ch c/\ZaU s ch c < 0/\ZfW s c:=by
 obtain ⟨h1,h2⟩:=(Zjg X hs hN).1 (show c∈(lbM s ch need).2.1 by rw [ho];simp)
 exact ⟨h1,h2,Zb7.rep X h1⟩
include hf
theorem Zhl {j:Int} (h:inR s.1.length j):atI (Zaq ch c f) j=if j=c then f else atI ch j:=
 Za3 (by rw [hs.1];exact (ZfM X hs hD hN ho).2.2.1) h.1
theorem Zgp:Zdi s (Zaq ch c f):=by
 refine ⟨by rw [Zay];exact hs.1,fun j hj=>?_⟩
 rw [Zhl X hs hD hN ho hf hj]
 split
 ·subst ‹j=c›
  have hr:=(ZfM X hs hD hN ho).2.2
  obtain ⟨a,_,b⟩:=X.cI.mem _ hr.1 f hf
  exact .inr ⟨hr.2,a,b⟩
 ·exact hs.2 j hj
theorem Zq6:ZnF s ch (Zaq ch c f):=fun j hj=>by
 rw [Zhl X hs hD hN ho hf hj]
 split
 ·subst ‹j=c›;exact .inl (ZtO X hs hj (ZfM X hs hD hN ho).2.1)
 ·exact .inr rfl
theorem Zjh:Zsw s (Zaq ch c f):=fun j hj h=>by
 have hm:=ZnG X hs (Zgp X hs hD hN ho hf) (Zq6 X hs hD hN ho hf) (q:=j)
 rw [Zhl X hs hD hN ho hf hj] at h
 split at h
 ·subst ‹j=c›;exact hm (ZfM X hs hD hN ho).1
 ·exact hm (hD j hj h)
theorem Zji:ZtP s (Zaq ch c f) < ZtP s ch:=by
 obtain ⟨h1,h2,h3⟩:=ZfM X hs hD hN ho
 refine Zk7 (fun q hq h=>?_) ⟨c,(Zjf X hs).2 h3,by simpa using h2,?_⟩
 ·have hr:=ZmT X hq
  have h:=of_decide_eq_true h
  refine decide_eq_true ?_
  by_cases e:q=c
  ·subst e;exact h2
  ·have:ZaU s (Zaq ch c f) q=ZaU s ch q:=by unfold ZaU;rw [Zhl X hs hD hN ho hf hr.1,if_neg e]
   omega
 ·refine decide_eq_false ?_
  have hfr:=(X.cI.mem _ h3.1 f hf).1.1
  have:ZaU s (Zaq ch c f) c=f:=by unfold ZaU;rw [Zhl X hs hD hN ho hf h3.1,if_pos rfl,if_pos hfr]
  omega
end
theorem Zlv (s:Za5) (ch:List Int):ZtP s ch<=s.1.length:=by
 unfold ZtP
 exact Nat.le_trans List.countP_le_length (Zde _ _)
section
variable {s:Za5} (X:Ctx s) (most:Nat) (hm:most<=20000)
include X hm
end
section
variable {s:Za5} (X:Ctx s) (most:Nat) (hm:most<=20000)
abbrev Z4C (s:Za5) (n:Nat) (most steps:Int) (found:Bool) (best:List Int) (cost:Int) (ch:List Int):=N22 n s.1 s.2.1 s.2.2.1 s.2.2.2.1 s.2.2.2.2.1 s.2.2.2.2.2.1 s.2.2.2.2.2.2 (Zai s) (Zaz s) most steps found best cost ch
abbrev SrR:=Int×Int×List Zae×List Zew×List (Int×Int×Int)×Int×Int×Int×Int×List Int×List (List Int)×Int×Int×Bool×List Int×Int×List Zbb
def srR (s:Za5) (k c most steps:Int) (found:Bool) (best:List Int) (cost:Int) (kids:List Zbb):SrR:=
 (k,c,s.1,s.2.1,s.2.2.1,s.2.2.2.1,s.2.2.2.2.1,s.2.2.2.2.2.1,s.2.2.2.2.2.2,Zai s,Zaz s,most,steps,found,best,cost,kids)
def Z1J (s:Za5) (most:Nat) (ch:List Int) (σ:SrS) (r:SrR):Prop:=
 (∃ k c steps found best cost kids,r=srR s k c (most:Int) steps found best cost kids/\(most:Int) < steps/\steps<=20001/\Ex s most ch σ) \/
 ∃ t σ',Vs s most ch σ t σ'/\σ'.steps<=most/\r=srR s (ZfP t).1 (ZfP t).2.1 (most:Int) (σ'.steps:Int) σ'.found σ'.best σ'.cost (ZfP t).2.2
include X hm
theorem Zk8:∀ (n:Nat) (ch:List Int),Zdi s ch->Zsw s ch->ZtP s ch < n->∀ σ:SrS,σ.steps<=most->Ret (Z4C s n (most:Int) (σ.steps:Int) σ.found σ.best σ.cost ch) (Z1J s most ch σ)
 | 0,ch,hs,hD,hu,σ,hst=>by omega
 | n+1,ch,hs,hD,hu,σ,hst=>by
  have hn:=X.n
  have hcl:=hs.1
  show Ret (G22 (N22 n) s.1 s.2.1 s.2.2.1 s.2.2.2.1 s.2.2.2.2.1 s.2.2.2.2.2.1 s.2.2.2.2.2.2 (Zai s) (Zaz s) (most:Int) (σ.steps:Int) σ.found σ.best σ.cost ch) _
  obtain ⟨need,hN,eA⟩:=ZAJ X hs
  have eA':F43 ((s.1,s.2.1,s.2.2.1,s.2.2.2.1,s.2.2.2.2.1,s.2.2.2.2.2.1,s.2.2.2.2.2.2),Zai s,Zaz s) ch=some (lbM s ch need).2:=eA
  have hws:wrap .i64 ((σ.steps:Int)+1)=((σ.steps+1:Nat):Int):=Zab _ (by omega)
  simp only [G22,hws,wq,reduceCtorEq,eA']
  refine ⟨fun e0=>.inl ⟨_,_,_,_,_,_,_,rfl,e0,by omega,.now (by omega)⟩,fun e0=>?_⟩
  have hlt:σ.steps < most:=by omega
  refine ⟨fun ea=>.inr ⟨_,_,.inf hlt hN ea,hlt,rfl⟩,fun ea=>?_⟩
  have tail:¬ ZvP σ (lbM s ch need).2.2.1->Ret (ZCF (N22 n) (lbM s ch need).2 (false,s.1,s.2.1,s.2.2.1,s.2.2.2.1,s.2.2.2.2.1,s.2.2.2.2.2.1,s.2.2.2.2.2.2,Zai s,Zaz s,(most:Int),((σ.steps+1:Nat):Int),σ.found,σ.best,σ.cost,ch,0,0)) (Z1J s most ch σ):=by
   intro hcut
   simp only [ZCF,wq,reduceCtorEq]
   refine ⟨fun eo=>?_,fun eo=>?_⟩
   ·have ho:(lbM s ch need).2.1=[]:=List.length_eq_zero_iff.1 (by omega)
    obtain ⟨g,hg,_,e1⟩:=Zii X hs hN hD ho
    have ec:F44 ((s.1,s.2.1,s.2.2.1,s.2.2.2.1,s.2.2.2.2.1,s.2.2.2.2.2.1,s.2.2.2.2.2.2),Zai s,Zaz s) ch=some (ZdC s ch):=ZEM X hs
    have eb:F37 ((s.1,s.2.1,s.2.2.1,s.2.2.2.1,s.2.2.2.2.1,s.2.2.2.2.2.1,s.2.2.2.2.2.2),Zai s,Zaz s) (ZdC s ch)=some g:=e1
    have er:F45 ((s.1,s.2.1,s.2.2.1,s.2.2.2.1,s.2.2.2.2.1,s.2.2.2.2.2.1,s.2.2.2.2.2.2),Zai s,Zaz s) (ZdC s ch)=some (ZdY s ch need):=ZnI X hs hN hD ho
    simp only [ec,eb,er,wq,reduceCtorEq]
    obtain ⟨g1,g2⟩:=g
    refine ⟨fun e2=>?_,fun e2=>?_⟩
    ·dsimp only at e2;subst e2
     exact .inr ⟨_,_,.bad hlt hN ea hcut ho hg,hlt,rfl⟩
    ·dsimp only at e2;subst e2
     exact .inr ⟨_,_,.leaf hlt hN ea hcut ho hg,hlt,rfl⟩
   ·obtain ⟨c,rest,ho⟩:=List.exists_cons_of_ne_nil (show (lbM s ch need).2.1≠[] from fun h=>eo (by rw [h];rfl))
    have hg0:gI (lbM s ch need).2.1 0=some c:=by rw [ho];rfl
    obtain ⟨hrc,hdc,hrep⟩:=ZfM X hs hD hN ho
    have hrl:=X.cI.len c hrep.1
    simp only [hg0,X.tget hrep.1,wq,reduceCtorEq]
    refine Zac (fun q=>∃ (k:Nat) (steps:Int) (found:Bool) (best:List Int) (cost:Int) (kids:List Zbb),q=((k:Int),s.1,s.2.1,s.2.2.1,s.2.2.2.1,s.2.2.2.2.1,s.2.2.2.2.2.1,s.2.2.2.2.2.2,Zai s,Zaz s,(most:Int),steps,found,best,cost,ch,0,0,3,c,kids)/\k<=(Zaw (Zaz s) c).length/\kids.length=k /\
     (((most:Int) < steps/\steps<=20001/\Ex s most ch σ)\/∃ σ1,VsL s most ch c ((Zaw (Zaz s) c).take k) σ.tick kids σ1/\σ1.steps<=most/\steps=(σ1.steps:Int)/\cost=σ1.cost/\found=σ1.found/\best=σ1.best)) (fun q=>(Zaw (Zaz s) c).length - q.1.toNat) ?_ _ ⟨0,_,_,_,_,_,rfl,by omega,rfl,.inr ⟨σ.tick,.nil,hlt,rfl,rfl,rfl,rfl⟩⟩
    rintro _ ⟨k,steps,found,best,cost,kids,rfl,hk,hkl,hI⟩
    have hw:=Zab k (by omega)
    simp only [Zyo,ZDZ,wq,reduceCtorEq,hw,hg0]
    have fin:(Zaw (Zaz s) c).length<=k\/(most:Int) < steps->Z1J s most ch σ (3,c,s.1,s.2.1,s.2.2.1,s.2.2.2.1,s.2.2.2.2.1,s.2.2.2.2.2.1,s.2.2.2.2.2.2,Zai s,Zaz s,(most:Int),steps,found,best,cost,kids):=fun hor=>by
     rcases hI with ⟨h1,h2,hE⟩ | ⟨σ1,hV,hs1,rfl,rfl,rfl,rfl⟩
     ·exact .inl ⟨_,_,_,_,_,_,_,rfl,h1,h2,hE⟩
     ·rw [take_of_length_le (by omega)] at hV
      exact .inr ⟨_,_,.br hlt hN ea hcut ho hV,hs1,rfl⟩
    refine ⟨fun hlt2=>?_,fun hge=>fin (.inl (by omega))⟩
    refine ⟨fun hmo=>⟨fun _=>?_,fun h=>absurd h (by omega)⟩,fun hmo=>fin (.inr (by omega))⟩
    refine Zaj (by omega) hlt2 fun f hf hfm=>?_
    have hns:=Zgp X hs hD hN ho hfm
    have hnd:=Zjh X hs hD hN ho hfm
    have hnu:=Zji X hs hD hN ho hfm
    have hgc:gI ch c=some (atI ch c):=ZaB (by rw [hcl];exact hrep.1)
    rw [Zax] at hf
    have hts:(Zaw (Zaz s) c).take (k+1)=(Zaw (Zaz s) c).take k++[f]:=by rw [take_add_one,hf];rfl
    have hsp:Zaw (Zaz s) c=(Zaw (Zaz s) c).take k++f::(Zaw (Zaz s) c).drop (k+1):=by
     obtain ⟨h1,h2⟩:=List.getElem?_eq_some_iff.1 hf
     conv=>lhs;rw [<-List.take_append_drop k (Zaw (Zaz s) c),List.drop_eq_getElem_cons h1,h2]
    rcases hI with ⟨h1,_,_⟩ | ⟨σ1,hV,hs1,rfl,rfl,rfl,rfl⟩
    ·omega
    ·simp only [hgc,wq,reduceCtorEq]
     refine (Zk8 n (Zaq ch c f) hns hnd (by omega) σ1 hs1).mono fun r _ hr=>?_
     rcases hr with ⟨k2,c2,st2,fo2,b2,co2,ki2,rfl,h1,h2,hE⟩ | ⟨t,σ2,hV2,hs2,rfl⟩
     ·exact ⟨fun _=>⟨⟨k+1,_,_,_,_,_,rfl,by omega,by simp;omega,.inl ⟨h1,h2,.br hlt hN ea hcut ho hsp hV hE⟩⟩,by omega⟩,fun h=>absurd h (by simp only [length_cons,length_nil];omega)⟩
     ·refine ⟨fun _=>⟨⟨k+1,_,_,_,_,_,rfl,by omega,by simp;omega,.inr ⟨σ2,?_,hs2,rfl,rfl,rfl,rfl⟩⟩,by omega⟩,fun h=>absurd h (by simp only [length_cons,length_nil];omega)⟩
      dsimp only [srR]
      rw [hts,ZtQ]
      exact hV.snoc hV2
  refine ⟨fun ef=>?_,fun ef=>?_⟩
  ·by_cases hc:σ.cost<=(lbM s ch need).2.2.1
   ·rw [show decide ((lbM s ch need).2.2.1>=σ.cost)=true from decide_eq_true hc]
    simp only [ZCF,wq,reduceCtorEq]
    exact .inr ⟨_,_,.cut hlt hN ea ⟨ef,hc⟩,hlt,rfl⟩
   ·rw [show decide ((lbM s ch need).2.2.1>=σ.cost)=false from decide_eq_false hc]
    exact tail fun h=>hc h.2
  ·exact tail fun h=>by (have h1:=h.1;rw [ef] at h1;cases h1)
end
def σ0:SrS:=⟨0,false,[],0⟩
section
variable {s:Za5} (X:Ctx s)
include X
theorem ZmV {j:Int} (h:inR s.1.length j):atI (Zcp s.1.length) j=-1:=Zgl _ _ h
theorem Zhm:Zdi s (Zcp s.1.length):=⟨by simp [Zcp],fun j hj=>.inl (ZmV X hj)⟩
theorem Zhn:Zsw s (Zcp s.1.length):=fun j hj h=>by rw [ZmV X hj] at h;omega
end
inductive Dep:Nat->Zbb->Prop
 | mk {n:Nat} {k c:Int} {l:List Zbb}:l.length<=1000->(∀ t∈l,Dep n t)->Dep (n+1) (.mk k c l)
theorem Dep.up {n m:Nat} {t:Zbb} (h:Dep n t) (hm:n<=m):Dep m t:=by
 induction h generalizing m with
 | mk hl _ ih=>
  cases m with
  | zero=>omega
  | succ m=>exact .mk hl fun t ht=>ih t ht (by omega)
section
variable {s:Za5} (X:Ctx s) {most:Nat}
include X
mutual
theorem Vs.dep {ch:List Int} {σ σ':SrS} {t:Zbb}:Vs s most ch σ t σ'->Zdi s ch->Zsw s ch->∀ n,ZtP s ch < n->Dep n t
 | .inf _ _ _,_,_,n,hu=>by obtain ⟨m,rfl⟩:∃ m,n=m+1:=⟨n - 1,by omega⟩;exact .mk (by simp) fun t ht=>by cases ht
 | .cut _ _ _ _,_,_,n,hu=>by obtain ⟨m,rfl⟩:∃ m,n=m+1:=⟨n - 1,by omega⟩;exact .mk (by simp) fun t ht=>by cases ht
 | .bad _ _ _ _ _ _,_,_,n,hu=>by obtain ⟨m,rfl⟩:∃ m,n=m+1:=⟨n - 1,by omega⟩;exact .mk (by simp) fun t ht=>by cases ht
 | .leaf _ _ _ _ _ _,_,_,n,hu=>by obtain ⟨m,rfl⟩:∃ m,n=m+1:=⟨n - 1,by omega⟩;exact .mk (by simp) fun t ht=>by cases ht
 | .br _ hN _ _ ho hl,hs,hD,n,hu=>by
  obtain ⟨m,rfl⟩:∃ m,n=m+1:=⟨n - 1,by omega⟩
  have hrep:=(ZfM X hs hD hN ho).2.2
  have hrl:=X.cI.len _ hrep.1
  obtain ⟨h1,h2⟩:=VsL.dep hl hs hD hN ho (fun f h=>h) m (by omega)
  have:=X.n
  exact .mk (by omega) h2
theorem VsL.dep {ch:List Int} {c:Int} {l:List Int} {σ σ':SrS} {ts:List Zbb} {need:List Bool} {rest:List Int}:VsL s most ch c l σ ts σ'->Zdi s ch->Zsw s ch->Zbv s ch need->(lbM s ch need).2.1=c::rest->(∀ f∈l,f∈Zaw (Zaz s) c)->∀ n,ZtP s ch<=n->ts.length=l.length/\∀ t∈ts,Dep n t
 | .nil,_,_,_,_,_,_,_=>⟨rfl,fun t ht=>by cases ht⟩
 | .cons h1 h2,hs,hD,hN,ho,hr,n,hu=>by
  obtain ⟨i1,i2⟩:=VsL.dep h2 hs hD hN ho (fun f hf=>hr f (mem_cons_of_mem _ hf)) n hu
  have hf:=hr _ (mem_cons_self ..)
  have hnu:=Zji X hs hD hN ho hf
  have hd:=Vs.dep h1 (Zgp X hs hD hN ho hf) (Zjh X hs hD hN ho hf) n (by omega)
  refine ⟨by simp [i1],fun t ht=>?_⟩
  rcases mem_cons.1 ht with rfl | ht
  ·exact hd
  ·exact i2 t ht
end
end
structure ZqD (s:Za5) (most:Int) (r:List Int×Int×(Int×Int×List Zbb)×Int):Prop where
 arg:¬ (ZcO s/\1<=most/\most<=20000)->r=([],0,(0,0,[]),1)
 run:ZcO s->1<=most->most<=20000->(Ex s most.toNat (Zcp s.1.length) σ0/\r=([],0,(0,0,[]),202))\/∃ t σ,Vs s most.toNat (Zcp s.1.length) σ0 t σ/\r=bif σ.found then (σ.best,σ.cost,ZfP t,0) else ([],0,(0,0,[]),201)
theorem ZqD.uniq {s:Za5} {most:Int} {a b:List Int×Int×(Int×Int×List Zbb)×Int} (ha:ZqD s most a) (hb:ZqD s most b):a=b:=by
 by_cases h:ZcO s/\1<=most/\most<=20000
 ·obtain ⟨h1,h2,h3⟩:=h
  rcases ha.run h1 h2 h3 with ⟨e1,rfl⟩ | ⟨t,σ,v1,rfl⟩<;>rcases hb.run h1 h2 h3 with ⟨e2,rfl⟩ | ⟨t',σ',v2,rfl⟩
  ·rfl
  ·exact absurd v2 (e1.no _ _)
  ·exact absurd v1 (e2.no _ _)
  ·obtain ⟨rfl,rfl⟩:=v1.det v2
   rfl
 ·rw [ha.arg h,hb.arg h]
theorem Z1D {s:Za5} (h:ZmA s) (hn:s.1.length<=900) (most:Int):Ret (F7 s most) (ZqD s most):=by
 simp only [F7,ZCB s h,Z0f,wq,reduceCtorEq]
 have no:¬ (ZcO s/\1<=most/\most<=20000)->ZqD s most ([],0,(0,0,[]),1):=fun hh=>⟨fun _=>rfl,fun h1 h2 h3=>absurd ⟨h1,h2,h3⟩ hh⟩
 refine ⟨fun hb=>no fun e=>by (rw [ZcH e.1] at hb;cases hb),fun hb=>⟨fun e=>no fun x=>by omega,fun e1=>⟨fun e2=>no fun x=>by omega,fun e2=>?_⟩⟩⟩
 have hv:=Zel.1 hb
 have X:Ctx s:=⟨h,hv,hn⟩
 ·have ent:((most.toNat:Nat):Int)=most:=by omega
  have hx:=Zk8 X most.toNat (by omega) 1000 (Zcp s.1.length) (Zhm X) (Zhn X) (by have:=Zlv s (Zcp s.1.length);omega) σ0 (by show 0<=_;omega)
  rw [ent] at hx
  simp only [ZDb h hv,ZAG _ (show s.1.length<=900000 by omega),wq,reduceCtorEq]
  refine Ret.mono (show Ret (F22 (Zcg s).1.1 (Zcg s).1.2.1 (Zcg s).1.2.2.1 (Zcg s).1.2.2.2.1 (Zcg s).1.2.2.2.2.1 (Zcg s).1.2.2.2.2.2.1 (Zcg s).1.2.2.2.2.2.2 (Zcg s).2.1 (Zcg s).2.2 most 0 false [] 0 (Zcp s.1.length)) _ from hx) fun r _ hr=>?_
  rcases hr with ⟨k,c,steps,found,best,cost,kids,rfl,h1,h2,hE⟩ | ⟨t,σ',hV,hs',rfl⟩
  ·refine ⟨fun _=>⟨fun hh=>absurd ⟨hv,by omega,by omega⟩ hh,fun _ _ _=>.inl ⟨hE,rfl⟩⟩,fun h=>?_⟩
   dsimp only [srR] at h
   omega
  ·refine ⟨fun h=>?_,fun _=>?_⟩
   ·dsimp only [srR] at h
    omega
   ·cases hf:σ'.found
    ·exact ⟨fun _=>⟨fun hh=>absurd ⟨hv,by omega,by omega⟩ hh,fun _ _ _=>.inr ⟨t,σ',hV,by rw [hf];rfl⟩⟩,fun h=>by (dsimp only [srR] at h;first | (rw [hf] at h;cases h) | cases h)⟩
    ·exact ⟨fun h=>by (dsimp only [srR] at h;first | (rw [hf] at h;cases h) | cases h),fun _=>⟨fun hh=>absurd ⟨hv,by omega,by omega⟩ hh,fun _ _ _=>.inr ⟨t,σ',hV,by rw [hf];rfl⟩⟩⟩

def Z5l (s:Za5) (ch:List Int) (need:List Bool):List Int:=(List.range s.1.length).map fun (j:Nat)=>if ZaJ need (j:Int)=true then ZaU s ch j else atI ch j
section
variable {s:Za5} (X:Ctx s) {ch:List Int} (hs:Zdi s ch) {need:List Bool} (hN:Zbv s ch need) (ho:(lbM s ch need).2.1=[])
include X hs hN ho
theorem Z5V {q:Int} (h:Zb7 s ch q):0<=ZaU s ch q:=by
 by_cases h2:0<=ZaU s ch q
 ·exact h2
 ·have:=(Zjg X hs hN).2 ⟨h,by omega⟩
  rw [ho] at this;cases this
theorem Z5W {q:Int} (h:Zb7 s ch q):atI (ZdC s ch) q=ZaU s ch q:=by
 have hr:=Zb7.rep X h
 rw [Zgn X hs hr.1,if_pos hr.2]
theorem rsr {q:Int} (h:RS s (ZdC s ch) q):Zb7 s ch q:=by
 induction h with
 | val=>exact .val
 | st=>exact .st
 | step h1 e ih=>
  have hd:=Z5V X hs hN ho ih
  have e2:=e.2
  rw [Z5W X hs hN ho ih] at e2
  exact .step ih (by unfold ZfX;rw [if_pos hd];exact e2) (Zdf X (Zct X hs (Zb7.rep X ih).1 hd).1 e2)
theorem Z4U:(Z5l s ch need).length=s.1.length:=by simp [Z5l]
theorem Z4S {j:Int} (h:inR s.1.length j):atI (Z5l s ch need) j=if ZaJ need j=true then ZaU s ch j else atI ch j:=by
 have h1:=h.1
 have h2:j.toNat < s.1.length:=by have:=h.2;omega
 have e:((j.toNat:Nat):Int)=j:=by omega
 unfold Z5l
 show ((List.range s.1.length).map _)[j.toNat]?.getD 0=_
 rw [getElem?_map,getElem?_range h2]
 show (if ZaJ need ((j.toNat:Nat):Int)=true then _ else _)=_
 rw [e]
theorem ZDx:F80 (some (Zbz s)) ch (lbM s ch need)=some (Z5l s ch need):=by
 have hn:=X.n
 have hcl:=hs.1
 have hL:(lbM s ch need).1=(ZaW (Zai s) s.1.length).filter fun q=>ZaJ need q:=(ZtN s ch need _).1
 have hLn:(lbM s ch need).1.length<=900:=by
  rw [hL]
  have h1:=List.length_filter_le (fun q=>ZaJ need q) (ZaW (Zai s) s.1.length)
  have h2:=Zde (Zai s) s.1.length
  omega
 have hmem:∀ q,q∈(lbM s ch need).1↔ZfW s q/\ZaJ need q=true:=fun q=>by rw [hL,mem_filter,Zjf X hs]
 have hall:∀ q,inR s.1.length q->ZaJ need q=true->0<=ZaU s ch q:=fun q hq hg=>Z5V X hs hN ho ((hN.ok q hq).1 hg)
 refine Ret.eq ?_
 simp only [F80,wq,reduceCtorEq,length_nil,nil_append]
 refine ⟨fun _=>?_,fun h=>absurd h (by omega)⟩
 refine Zac (fun q:Int×List Int=>∃ (k:Nat) (out:List Int),q=((k:Int),out)/\k<=(lbM s ch need).1.length/\out.length=s.1.length/\∀ j,inR s.1.length j->atI out j=if j∈(lbM s ch need).1.take k then ZaU s ch j else atI ch j) (fun q=>(lbM s ch need).1.length - q.1.toNat) ?_ _ ⟨0,ch,rfl,by omega,hcl,fun j _=>by simp⟩
 rintro _ ⟨k,out,rfl,hk,hol,hO⟩
 have hw:=Zab k (by omega)
 simp only [ZxI,ZxJ,wq,reduceCtorEq,hw]
 refine ⟨fun hlt=>Zaj (by omega) hlt fun q hq hqm=>?_,fun hge=>?_⟩
 ·obtain ⟨hrep,hg⟩:=(hmem q).1 hqm
  have hqo:inR out.length q:=by rw [hol];exact hrep.1
  rw [Zm9 X hs.1 hrep.1]
  simp only [ZaB hqo,wq,reduceCtorEq]
  rw [Zax] at hq
  refine ⟨fun _=>⟨⟨k+1,_,rfl,by omega,by rw [Zay];exact hol,fun j hj=>?_⟩,by omega⟩,fun h=>absurd (hall q hrep.1 hg) (by omega)⟩
  rw [Za3 hqo hj.1,take_add_one,hq]
  by_cases e:j=q
  ·subst e;rw [if_pos rfl,if_pos (by simp)]
  ·rw [if_neg e,hO j hj]
   simp [e]
 ·rw [take_of_length_le (by omega)] at hO
  refine Zhj (by rw [hol,Z4U X hs hN ho]) fun j hj=>?_
  rw [hol] at hj
  rw [hO j hj,Z4S X hs hN ho hj]
  by_cases e:ZaJ need j=true
  ·rw [if_pos ((hmem j).2 ⟨Zb7.rep X ((hN.ok j hj).1 e),e⟩),if_pos e]
  ·rw [if_neg (fun h=>e ((hmem j).1 h).2),if_neg e]
theorem Z5i:Zdi s (Z5l s ch need):=by
 refine ⟨Z4U X hs hN ho,fun j hj=>?_⟩
 rw [Z4S X hs hN ho hj]
 split
 ·rename_i e
  have hr:=Zb7.rep X ((hN.ok j hj).1 e)
  have:=(Zhk X hs).2 j hj
  rw [Zgn X hs hj,if_pos hr.2] at this
  exact this
 ·exact hs.2 j hj
theorem Z4L:∃ r,Zq0 s (Z5l s ch need) r/\F25 (some (Zbz s)) (Z5l s ch need)=some r/\F37 (Zcg s) (ZdC s ch)=some r:=by
 obtain ⟨r,e,hr⟩:=Z89 X (Z5i X hs hN ho)
 obtain ⟨r',e',hr'⟩:=ZBi X (Zhk X hs)
 have:=hr.uniq (hr'.agree fun q h=>by
  have hq:=rsr X hs hN ho h
  have hrep:=Zb7.rep X hq
  rw [Z4S X hs hN ho hrep.1,if_pos ((hN.ok q hrep.1).2 hq),Z5W X hs hN ho hq])
 subst this
 exact ⟨r,hr,e,e'⟩
end
open Classical in
def Z5b (s:Za5) (ch:List Int):List Bool:=if h:∃ need,Zbv s ch need then h.choose else []
theorem Z4V {s:Za5} {ch:List Int} {need:List Bool} (hN:Zbv s ch need):Z5b s ch=need:=by
 have h:∃ need,Zbv s ch need:=⟨_,hN⟩
 unfold Z5b
 rw [dif_pos h]
 exact h.choose_spec.uniq hN
def lbV (s:Za5) (ch:List Int):Int:=(lbM s ch (Z5b s ch)).2.2.1
def Z5x (s:Za5) (ch:List Int):Bool:=!(lbM s ch (Z5b s ch)).2.2.2||(decide ((lbM s ch (Z5b s ch)).2.1.length=0)&&!((F37 (Zcg s) (ZdC s ch)).getD (noG,false)).2)
section
variable {s:Za5} (X:Ctx s) {ch:List Int} (hs:Zdi s ch)
include X hs
theorem Z5m {need:List Bool} (hN:Zbv s ch need):lbV s ch=(lbM s ch need).2.2.1:=by
 unfold lbV;rw [Z4V hN]
theorem Z5c {need:List Bool} (hN:Zbv s ch need):Z5x s ch=(!(lbM s ch need).2.2.2||(decide ((lbM s ch need).2.1.length=0)&&!((F37 (Zcg s) (ZdC s ch)).getD (noG,false)).2)):=by
 unfold Z5x;rw [Z4V hN]
theorem Z4W:F54 (some (Zbz s)) ch=some (Z5x s ch):=by
 obtain ⟨need,hN,e1⟩:=ZCD X hs
 rw [Z5c X hs hN]
 unfold F54
 rw [e1]
 simp only [bind_some]
 cases hf:(lbM s ch need).2.2.2
 ·rfl
 ·simp only [Bool.not_true,cond_false,Bool.false_or]
  by_cases ho:(lbM s ch need).2.1=[]
  ·have hd:decide (((lbM s ch need).2.1.length:Int) > 0)=false:=by rw [ho];rfl
   have hd2:decide ((lbM s ch need).2.1.length=0)=true:=by rw [ho];rfl
   rw [hd,hd2]
   obtain ⟨r,_,b1,b2⟩:=Z4L X hs hN ho
   rw [ZDx X hs hN ho]
   simp only [bind_some,cond_false,b1,b2]
   rfl
  ·have hp:=length_pos_iff.2 ho
   have hd:decide (((lbM s ch need).2.1.length:Int) > 0)=true:=decide_eq_true (by omega)
   have hd2:decide ((lbM s ch need).2.1.length=0)=false:=decide_eq_false (by omega)
   rw [hd,hd2]
   rfl
end
def Z5d (s:Za5):Nat->List Int->Int->Zbb->Bool
 | 0,_,_,_=>false
 | n+1,ch,cost,t=>
  if (ZfP t).1=1 then decide ((ZfP t).2.1=0)&&decide ((ZfP t).2.2.length=0)&&decide (cost<=lbV s ch)
  else if (ZfP t).1=2 then decide ((ZfP t).2.1=0)&&decide ((ZfP t).2.2.length=0)&&Z5x s ch
  else if (ZfP t).1=3 then decide (inR s.1.length (ZfP t).2.1)&&decide (2<=(Zaw (Zaz s) (ZfP t).2.1).length)&&decide (atI ch (ZfP t).2.1 < 0)&&decide ((ZfP t).2.2.length=(Zaw (Zaz s) (ZfP t).2.1).length) &&
   ((Zaw (Zaz s) (ZfP t).2.1).zip (ZfP t).2.2).all fun p=>Z5d s n (Zaq ch (ZfP t).2.1 p.1) cost p.2
  else false
theorem Z4J {α:Type} {l:List α} {p:α->Bool} {k:Nat} {x:α} (hx:l[k]?=some x) (h:(l.take k).all p=true):((l.take (k+1)).all p=true↔p x=true):=by
 rw [take_add_one,hx,List.all_append,h];simp
theorem Z4Q {α:Type} {l:List α} {p:α->Bool} {k:Nat} {x:α} (hx:l[k]?=some x) (h:p x=false):l.all p=false:=by
 rw [List.all_eq_false];exact ⟨x,mem_of_getElem? hx,by rw [h];simp⟩
section
variable {s:Za5} (X:Ctx s)
include X
theorem Z5e {c f:Int} (hc:inR s.1.length c) (hf:f∈Zaw (Zaz s) c):ZfW s c:=by
 obtain ⟨a,_,b⟩:=X.cI.mem _ hc f hf
 exact ⟨hc,by have:=X.ci.r2 f a;rw [b] at this;exact this⟩
end
theorem Z5f (s:Za5) (n:Nat) (ch:List Int) (cost k c:Int) (l:List Zbb):Z5d s (n+1) ch cost (.mk k c l) =
 if k=1 then decide (c=0)&&decide (l.length=0)&&decide (cost<=lbV s ch)
 else if k=2 then decide (c=0)&&decide (l.length=0)&&Z5x s ch
 else if k=3 then decide (inR s.1.length c)&&decide (2<=(Zaw (Zaz s) c).length)&&decide (atI ch c < 0)&&decide (l.length=(Zaw (Zaz s) c).length) &&
  ((Zaw (Zaz s) c).zip l).all fun p=>Z5d s n (Zaq ch c p.1) cost p.2
 else false:=rfl
section
variable {s:Za5} (X:Ctx s)
include X
theorem Z5g {ch:List Int} (hs:Zdi s ch) {c f:Int} (hc:inR s.1.length c) (hf:f∈Zaw (Zaz s) c):Zdi s (Zaq ch c f):=by
 refine ⟨by rw [Zay];exact hs.1,fun j hj=>?_⟩
 rw [Za3 (by rw [hs.1];exact hc) hj.1]
 split
 ·subst ‹j=c›
  obtain ⟨a,_,b⟩:=X.cI.mem _ hj f hf
  exact .inr ⟨(Z5e X hj hf).2,a,b⟩
 ·exact hs.2 j hj
theorem Z4M (cost:Int):∀ (n:Nat) (t:Zbb),Dep n t->∀ ch,Zdi s ch->N27 n (some (Zbz s)) ch cost (ZfP t)=some (Z5d s n ch cost t)
 | 0,t,h,_,_=>by cases h
 | n+1,.mk k c l,h,ch,hs=>by
  cases h with
  | mk hl h=>
   have hn:=X.n
   have hcl:=hs.1
   refine Ret.eq ?_
   show Ret (G27 (N27 n) (some (Zbz s)) ch cost (k,c,l)) _
   obtain ⟨need,hN,eA⟩:=ZCD X hs
   have ei:=Z4W X hs
   have elb:=Z5m X hs hN
   rw [Z5f,elb]
   unfold G27
   by_cases k1:k=1
   ·subst k1
    rw [if_pos rfl]
    simp only [Z5I,eA,wq,reduceCtorEq]
    refine ⟨fun h1=>⟨fun h2=>?_,fun h2=>?_⟩,fun h1=>?_⟩
    ·rw [decide_eq_true h1,decide_eq_true (show l.length=0 by omega)];simp
    ·rw [decide_eq_false (show ¬ l.length=0 by omega)];simp
    ·rw [decide_eq_false h1];simp
   rw [if_neg k1]
   by_cases k2:k=2
   ·subst k2
    rw [if_pos rfl]
    simp only [ZE6,ei,wq,reduceCtorEq]
    refine ⟨fun e=>absurd e k1,fun _=>⟨fun h1=>⟨fun h2=>?_,fun h2=>?_⟩,fun h1=>?_⟩⟩
    ·rw [decide_eq_true h1,decide_eq_true (show l.length=0 by omega)];simp
    ·rw [decide_eq_false (show ¬ l.length=0 by omega)];simp
    ·rw [decide_eq_false h1];simp
   rw [if_neg k2]
   by_cases k3:k=3
   ·subst k3
    rw [if_pos rfl]
    have htl:(Zbz s).2.2.2.length=s.1.length:=X.tlen
    simp only [Z6Y,htl,ZE7,wq,reduceCtorEq]
    refine ⟨fun e=>absurd e k1,fun _=>⟨fun e=>absurd e k2,fun _=>?_⟩⟩
    by_cases hc:inR s.1.length c
    ·rw [if_pos hc,decide_eq_true hc]
     have hrl:=X.cI.len c hc
     have hcc:inR ch.length c:=by rw [hcl];exact hc
     have hrow:Zaw (Zbz s).2.2.2 c=Zaw (Zaz s) c:=rfl
     simp only [hrow,ZaB hcc,wq,reduceCtorEq]
     refine ⟨fun h1=>?_,fun h1=>⟨fun h2=>?_,fun h2=>?_⟩⟩
     ·rw [decide_eq_false (show ¬ 2<=(Zaw (Zaz s) c).length by omega)];simp
     ·rw [decide_eq_false (show ¬ atI ch c < 0 by omega)];simp
     ·rw [decide_eq_true (show 2<=(Zaw (Zaz s) c).length by omega),decide_eq_true (show atI ch c < 0 by omega)]
      by_cases he:l.length=(Zaw (Zaz s) c).length
      ·rw [decide_eq_true he]
       simp only [Bool.true_and]
       refine ⟨fun e=>absurd e (by omega),fun _=>?_⟩
       refine Zac (fun q:Int=>∃ k:Nat,q=(k:Int)/\k<=l.length/\(((Zaw (Zaz s) c).zip l).take k).all (fun p=>Z5d s n (Zaq ch c p.1) cost p.2)=true) (fun q=>l.length - q.toNat) ?_ _ ⟨0,rfl,by omega,by simp⟩
       rintro _ ⟨k,rfl,hk,hA⟩
       have hw:=Zab k (by omega)
       simp only [Z8F,wq,reduceCtorEq,hw,hrow,nil_append,length_nil,ZaB hcc]
       refine ⟨fun hlt=>Zaj (by omega) hlt fun f hf hfm=>⟨fun _=>Zaj (by omega) (by omega) fun y hy hym=>?_,fun h=>absurd h (by omega)⟩,fun hge=>?_⟩
       ·rw [Z4M cost n y (h y hym) _ (Z5g X hs hc hfm)]
        rw [Zax] at hf hy
        have hz:((Zaw (Zaz s) c).zip l)[k]?=some (f,y):=by rw [List.getElem?_zip_eq_some];exact ⟨hf,hy⟩
        have ha:=Z4J (p:=fun p:Int×Zbb=>Z5d s n (Zaq ch c p.1) cost p.2) hz hA
        simp only [wq,reduceCtorEq]
        refine ⟨fun hb=>(Z4Q hz hb).symm,fun hb=>⟨⟨k+1,rfl,by omega,ha.2 hb⟩,by omega⟩⟩
       ·rw [take_of_length_le (by rw [List.length_zip];omega)] at hA
        exact hA.symm
      ·rw [decide_eq_false he]
       exact ⟨fun _=>by simp,fun e=>absurd e (by omega)⟩
    ·rw [if_neg hc,decide_eq_false hc]
     simp
   ·simp only [wq,reduceCtorEq]
    exact ⟨fun e=>absurd e k1,fun _=>⟨fun e=>absurd e k2,fun _=>⟨fun e=>absurd e k3,fun _=>by rw [if_neg k3]⟩⟩⟩
end
section
variable {s:Za5} (h:ZmA s) (hn:s.1.length<=900)
include h hn
theorem Z5s (hv:ZcO s) (ch:List Int) {r:GrT×Bool} (er:F18 s ch=some r):F25 (some (Zbz s)) ch=some r:=by
 obtain ⟨r',er',hr⟩:=ZCn h hn ch
 rw [er] at er'
 obtain rfl:=inj er'
 have X:Ctx s:=⟨h,hv,hn⟩
 refine Ret.eq ?_
 by_cases hs:Zdi s ch
 ·rcases hr with ⟨h1,_⟩ | ⟨_,_,hq⟩
  ·exact absurd ⟨X.v,hs⟩ h1
  ·exact (Z89 X hs).mono fun r' _ h'=>h'.uniq hq
 ·have hsb:ZqB s ch=false:=(Zep hs).symm
  simp only [F25,F50,Zz8 X,hsb,wq,reduceCtorEq]
  rcases hr with ⟨_,rfl⟩ | ⟨_,h2,_⟩
  ·rfl
  ·exact absurd h2 hs
theorem Z5t {ch:List Int} {r:GrT×Bool} (er:F18 s ch=some r):r.1.2.2.1.length<=900:=by
 obtain ⟨r',er',hr⟩:=ZCn h hn ch
 rw [er] at er'
 obtain rfl:=inj er'
 exact Z4T hn hr
theorem Z5n {ch:List Int} {r:GrT×Bool} (er:F18 s ch=some r) (hv:¬ ZcO s):r.2=false:=by
 obtain ⟨r',er',hr⟩:=ZCn h hn ch
 rw [er] at er'
 obtain rfl:=inj er'
 rcases hr with ⟨_,rfl⟩ | ⟨h2,_⟩
 ·rfl
 ·exact absurd h2 hv
theorem Z5D {ch:List Int} {r:GrT×Bool} (er:F18 s ch=some r):F6 s ch=some (Z4R r.1.2.2.1,r.2):=by
 obtain ⟨q,eq,r',er',_,rfl⟩:=ZBv h hn ch
 rw [er] at er'
 obtain rfl:=inj er'
 exact eq
theorem Z5u {ch:List Int} {r:GrT×Bool} (er:F18 s ch=some r) (cost:Int) {t:Zbb} (ht:Dep 1000 t):F9 s ch cost (ZfP t)=some (r.2&&decide (Z4R r.1.2.2.1=cost)&&Z5d s 1000 (Zcp s.1.length) cost t):=by
 refine Ret.eq ?_
 simp only [F9,ZAX s h,Z2a,wq,reduceCtorEq]
 cases hb:ZdT s
 ·simp only [cond_false,wq,reduceCtorEq]
  rw [Z5n h hn er (fun hv=>by rw [ZcH hv] at hb;cases hb)]
  simp
 ·have X:Ctx s:=⟨h,Zel.1 hb,hn⟩
  simp only [cond_true,wq,reduceCtorEq,Z5s h hn X.v ch er,Z6K _ (Z5t h hn er),ZBm _ (show s.1.length<=900000 by omega)]
  rw [show F27 (some (Zbz s)) (Zcp s.1.length) cost (ZfP t)=_ from Z4M X cost 1000 t ht _ (Zhm X)]
  refine ⟨fun h1=>⟨fun h2=>?_,fun h2=>?_⟩,fun h1=>?_⟩
  ·simp only [wq,reduceCtorEq];rw [h1,decide_eq_true h2];simp
  ·rw [decide_eq_false h2];simp
  ·rw [h1];simp
end
theorem Z4K:∀ (n:Nat) (l:List Int) (deep:Int),0<=deep->deep<=4->(4 - deep).toNat < n->Ret (N8 n l deep) fun r=>∃ t,r.1=ZfP t/\Dep n t
 | 0,l,deep,h0,h4,hl=>by omega
 | n+1,l,deep,h0,h4,hl=>by
  have leaf:∀ k c:Int,Dep (n+1) (.mk k c []):=fun k c=>.mk (by simp) fun t ht=>by cases ht
  have hw:wrap .i64 (deep+1)=deep+1:=Zau (by omega) (by omega)
  show Ret (G8 (N8 n) l deep) _
  simp only [G8,Z5E,wq,reduceCtorEq]
  refine ⟨fun _=>⟨.mk 1 0 [],rfl,leaf 1 0⟩,fun hne=>⟨fun _=>⟨.mk 1 0 [],rfl,leaf 1 0⟩,fun hd=>?_⟩⟩
  refine Zaj (by omega) (by omega) fun y hy _=>⟨fun _=>?_,fun h=>absurd h (by omega)⟩
  refine Z8B (by omega) (by omega) fun r d r0 r1=>?_
  refine Zaj r0 (by simp only [length_cons,length_nil];omega) fun z hz _=>?_
  simp only [Za4 hz,wq,reduceCtorEq]
  refine ⟨fun _=>⟨.mk z 0 [],rfl,leaf z 0⟩,fun _=>?_⟩
  refine Z8B (by omega) (by omega) fun c d2 _ _=>?_
  refine Z8B (by omega) (by omega) fun k d3 k0 k1=>?_
  refine Zac (fun q:List Int×Int×Int×Int×Int×Int×List Zbb=>∃ (l:List Int) (k a b:Int) (kids:List Zbb),q=(l,k,a,b,z,c,kids)/\0<=k/\(kids.length:Int)+k<=3/\∀ t∈kids,Dep n t) (fun q=>q.2.1.toNat) ?_ _ ⟨_,_,_,_,_,rfl,by rw [Zau (by omega) (by omega)];omega,by rw [Zau (by omega) (by omega)];simp;omega,fun t ht=>by cases ht⟩
  rintro _ ⟨l',k',a,b,kids,rfl,hk0,hk3,hK⟩
  simp only [Z5G,wq,reduceCtorEq,hw]
  refine ⟨fun hp=>?_,fun hp=>⟨.mk z c kids,rfl,.mk (by omega) hK⟩⟩
  refine (Z4K n l' (deep+1) (by omega) (by omega) (by omega)).mono fun r _ ⟨t,er,hD⟩=>?_
  have hw2:wrap .i64 (k' - 1)=k' - 1:=Zau (by omega) (by omega)
  rw [hw2]
  refine ⟨fun _=>⟨⟨_,_,_,_,_,rfl,by omega,by simp;omega,fun u hu=>?_⟩,by omega⟩,fun h=>absurd h (by simp only [length_cons,length_nil];omega)⟩
  rcases mem_append.1 hu with hu | hu
  ·exact hK u hu
  ·rw [mem_singleton.1 hu,er,ZtQ];exact hD
end Go.Dat
namespace Go.Dat
open Go.Eng
section
variable {s:Za5} (X:Ctx s) {ch:List Int} (hs:Zdi s ch) {need:List Bool} (hN:Zbv s ch need)
include X hs hN
theorem Z6H (h:(lbM s ch need).2.2.2=false):Z5x s ch=true:=by
 rw [Z5c X hs hN,h];rfl
theorem Z6I (hD:Zsw s ch) (hf:(lbM s ch need).2.2.2=true) (ho:(lbM s ch need).2.1=[]) {g:GrT} (hb:Zq0 s (ZdY s ch need) (g,false)):Z5x s ch=true:=by
 obtain ⟨r,er,hr⟩:=ZBi X (Zhk X hs)
 obtain rfl:=(hb.uniq (hr.agree fun q h=>Zq5 X hs hN hD ho h))
 rw [Z5c X hs hN,hf,ho,er];rfl
theorem Z6C {c:Int} {rest:List Int} (hD:Zsw s ch) (ho:(lbM s ch need).2.1=c::rest):inR s.1.length c/\2<=(Zaw (Zaz s) c).length/\atI ch c < 0:=by
 obtain ⟨h1,h2,h3⟩:=ZfM X hs hD hN ho
 have hne:=Zqr X h3
 have hm:=ZtO X hs h3.1 h2
 refine ⟨h3.1,?_,by omega⟩
 by_cases e:(Zaw (Zaz s) c).length=1
 ·have:=(X.cI.mem c h3.1 _ (Zqp (l:=Zaw (Zaz s) c) (i:=0) ⟨by omega,by omega⟩)).1.1
  unfold ZaU at h2
  rw [if_neg (by omega),if_pos e] at h2
  omega
 ·have:=length_pos_iff.2 hne
  omega
end
mutual
theorem Vs.mon {s:Za5} {most:Nat} {ch:List Int} {σ σ':SrS} {t:Zbb}:Vs s most ch σ t σ'->σ.found=true->σ'.found=true/\σ'.cost<=σ.cost
 | .inf _ _ _,h=>⟨h,Int.le_refl _⟩
 | .cut _ _ _ _,h=>⟨h,Int.le_refl _⟩
 | .bad _ _ _ _ _ _,h=>⟨h,Int.le_refl _⟩
 | .leaf (need:=need) _ _ _ hc _ _,h=>⟨rfl,by
  by_cases e:σ.cost<=(lbM s ch need).2.2.1
  ·exact absurd ⟨h,e⟩ hc
  ·show (lbM s ch need).2.2.1<=σ.cost
   omega⟩
 | .br _ _ _ _ _ hl,h=>by
  have:=VsL.mon hl (show σ.tick.found=true from h)
  exact this
theorem VsL.mon {s:Za5} {most:Nat} {ch:List Int} {c:Int} {l:List Int} {σ σ':SrS} {ts:List Zbb}:VsL s most ch c l σ ts σ'->σ.found=true->σ'.found=true/\σ'.cost<=σ.cost
 | .nil,h=>⟨h,Int.le_refl _⟩
 | .cons h1 h2,h=>by
  obtain ⟨a,b⟩:=Vs.mon h1 h
  obtain ⟨a',b'⟩:=VsL.mon h2 a
  exact ⟨a',by omega⟩
end
def Z6D (s:Za5) (σ:SrS):Prop:=σ.found=true->∃ ch need g,Zdi s ch/\Zsw s ch/\Zbv s ch need/\(lbM s ch need).2.1=[]/\Zq0 s (ZdY s ch need) (g,true)/\σ.best=ZdY s ch need/\σ.cost=(lbM s ch need).2.2.1
section
variable {s:Za5} (X:Ctx s) {most:Nat}
include X
mutual
theorem Vs.good {ch:List Int} {σ σ':SrS} {t:Zbb}:Vs s most ch σ t σ'->Zdi s ch->Zsw s ch->Z6D s σ->Z6D s σ'
 | .inf _ _ _,_,_,h=>h
 | .cut _ _ _ _,_,_,h=>h
 | .bad _ _ _ _ _ _,_,_,h=>h
 | .leaf _ hN _ _ ho hb,hs,hD,_=>fun _=>⟨_,_,_,hs,hD,hN,ho,hb,rfl,rfl⟩
 | .br _ hN _ _ ho hl,hs,hD,h=>VsL.good hl hs hD hN ho (fun f h=>h) h
theorem VsL.good {ch:List Int} {c:Int} {l:List Int} {σ σ':SrS} {ts:List Zbb} {need:List Bool} {rest:List Int}:VsL s most ch c l σ ts σ'->Zdi s ch->Zsw s ch->Zbv s ch need->(lbM s ch need).2.1=c::rest->(∀ f∈l,f∈Zaw (Zaz s) c)->Z6D s σ->Z6D s σ'
 | .nil,_,_,_,_,_,h=>h
 | .cons h1 h2,hs,hD,hN,ho,hr,h=>by
  have hf:=hr _ (mem_cons_self ..)
  exact VsL.good h2 hs hD hN ho (fun f hf=>hr f (mem_cons_of_mem _ hf)) (Vs.good h1 (Zgp X hs hD hN ho hf) (Zjh X hs hD hN ho hf) h)
end
mutual
theorem Vs.prv {ch:List Int} {σ σ':SrS} {t:Zbb}:Vs s most ch σ t σ'->Zdi s ch->Zsw s ch->∀ n,ZtP s ch < n->∀ m:Int,(σ'.found=true->m<=σ'.cost)->Z5d s n ch m t=true
 | .inf _ hN ha,hs,hD,n,hu,m,hm=>by
  obtain ⟨k,rfl⟩:∃ k,n=k+1:=⟨n - 1,by omega⟩
  rw [Z5f,if_neg (by decide),if_pos rfl,Z6H X hs hN ha];rfl
 | .cut _ hN ha hc,hs,hD,n,hu,m,hm=>by
  obtain ⟨k,rfl⟩:∃ k,n=k+1:=⟨n - 1,by omega⟩
  have h1:=hm hc.1
  have h2:=hc.2
  have h3:m<=lbV s ch:=by rw [Z5m X hs hN];exact Int.le_trans h1 h2
  rw [Z5f,if_pos rfl,decide_eq_true h3];rfl
 | .bad _ hN ha _ ho hb,hs,hD,n,hu,m,hm=>by
  obtain ⟨k,rfl⟩:∃ k,n=k+1:=⟨n - 1,by omega⟩
  rw [Z5f,if_neg (by decide),if_pos rfl,Z6I X hs hN hD ha ho hb];rfl
 | .leaf _ hN ha _ ho hb,hs,hD,n,hu,m,hm=>by
  obtain ⟨k,rfl⟩:∃ k,n=k+1:=⟨n - 1,by omega⟩
  have h3:m<=lbV s ch:=by rw [Z5m X hs hN];exact hm rfl
  rw [Z5f,if_pos rfl,decide_eq_true h3];rfl
 | .br _ hN _ _ ho hl,hs,hD,n,hu,m,hm=>by
  obtain ⟨k,rfl⟩:∃ k,n=k+1:=⟨n - 1,by omega⟩
  obtain ⟨o1,o2,o3⟩:=Z6C X hs hN hD ho
  obtain ⟨i1,i2⟩:=VsL.prv hl hs hD hN ho (fun f h=>h) k (by omega) m hm
  rw [Z5f,if_neg (by decide),if_neg (by decide),if_pos rfl,decide_eq_true o1,decide_eq_true o2,decide_eq_true o3,decide_eq_true i1,i2];rfl
theorem VsL.prv {ch:List Int} {c:Int} {l:List Int} {σ σ':SrS} {ts:List Zbb} {need:List Bool} {rest:List Int}:VsL s most ch c l σ ts σ'->Zdi s ch->Zsw s ch->Zbv s ch need->(lbM s ch need).2.1=c::rest->(∀ f∈l,f∈Zaw (Zaz s) c)->∀ n,ZtP s ch<=n->∀ m:Int,(σ'.found=true->m<=σ'.cost)->ts.length=l.length/\(l.zip ts).all (fun p=>Z5d s n (Zaq ch c p.1) m p.2)=true
 | .nil,_,_,_,_,_,_,_,_,_=>⟨rfl,rfl⟩
 | .cons h1 h2,hs,hD,hN,ho,hr,n,hu,m,hm=>by
  obtain ⟨i1,i2⟩:=VsL.prv h2 hs hD hN ho (fun f hf=>hr f (mem_cons_of_mem _ hf)) n hu m hm
  have hf:=hr _ (mem_cons_self ..)
  have hnu:=Zji X hs hD hN ho hf
  have hp:=Vs.prv h1 (Zgp X hs hD hN ho hf) (Zjh X hs hD hN ho hf) n (by omega) m (fun e=>by
   obtain ⟨a,b⟩:=VsL.mon h2 e
   have:=hm a
   omega)
  refine ⟨by simp [i1],?_⟩
  rw [List.zip_cons_cons,List.all_cons,hp,i2];rfl
end
end
section
variable {s:Za5} (X:Ctx s) {ch:List Int} (hs:Zdi s ch) {need:List Bool} (hN:Zbv s ch need) (hD:Zsw s ch) (ho:(lbM s ch need).2.1=[])
include X hs hN hD ho
theorem Z6E {g:GrT} (hb:Zq0 s (ZdY s ch need) (g,true)):Z4R g.2.2.1=(lbM s ch need).2.2.1:=by
 have hbs:=Zq3 X hs hN
 have hp:ZnF s ch (ZdY s ch need):=fun j hj=>by
  by_cases h0:0<=atI ch j
  ·have hr:=hD j hj h0
   refine .inr ?_
   rw [Zgm X hs hj,if_pos ((hN.ok j hj).2 hr)]
   unfold ZaU;rw [if_pos h0]
  ·rcases hs.2 j hj with h | ⟨_,h,_⟩
   ·exact .inl h
   ·exact absurd h.1 h0
 rcases hb with ⟨_,e⟩ | ⟨vs,hv,e⟩
 ·cases e
 ·cases hw:wfB (grS s (ZdY s ch need) vs)
  ·rw [hw] at e;cases e
  ·rw [hw] at e
   obtain rfl:=(Prod.mk.inj e).1
   have hle:=Z6B X hs hbs hp hN hv
   have hge:Z4R (grS s (ZdY s ch need) vs).2.2.1<=(lbM s ch need).2.2.1:=by
    rw [Z62 X]
    have e:Z60 s ch need (ZaW (Zai s) s.1.length)=(((ZaW (Zai s) s.1.length).filter fun q=>ZaJ need q).map (Z6u s ch)).sum:=by
     unfold Z60
     generalize ZaW (Zai s) s.1.length=l
     induction l with
     | nil=>rfl
     | cons q l ih=>
      simp only [map_cons,sum_cons,List.filter_cons]
      split
      ·rw [map_cons,sum_cons,ih]
      ·rw [ih];omega
    have e2:Z4R (grS s (ZdY s ch need) vs).2.2.1=(vs.map fun q=>ncM (Zjp s (ZdY s ch need) vs q)).sum:=by simp [Z4R,grS,Function.comp_def]
    rw [e,e2]
    have hroots:∀ p∈[atI (Zai s) s.2.2.2.1,atI (Zai s) s.2.2.2.2.1],RS s (ZdY s ch need) p:=fun p hp=>by
     rcases mem_cons.1 hp with rfl | hp
     ·exact .val
     ·rw [mem_singleton.1 hp];exact .st
    have hrs:=PoL.rs hv.po hroots (fun q hq=>by cases hq)
    refine Z6y _ _ _ _ hv.nd (fun q hq=>?_) fun q hq=>?_
    ·have h1:RS s (ZdC s ch) q:=Z67 (fun q h=>Zq5 X hs hN hD ho h) (hrs q hq)
     have h2:=(Zgo X hs hN hD ho).1 h1
     have h3:=Zb7.rep X h2
     have h4:=(hN.ok q h3.1).2 h2
     refine ⟨mem_filter.2 ⟨(Zjf X hs).2 h3,h4⟩,?_⟩
     have h5:atI (ZdY s ch need) q=ZaU s ch q:=by rw [Zgm X hs h3.1,if_pos h4]
     have h6:=Zlu X hs hN hD ho h2
     have:Z6u s ch q=ncM (Zjp s (ZdY s ch need) vs q):=by
      unfold Z6u
      rw [if_pos h6,<-h5]
      exact Z6z rfl
     omega
    ·rw [mem_filter] at hq
     exact (Z6w X ch (ZmT X hq.1)).1
   omega
end
theorem Z68 {s:Za5} (h:ZmA s) (hn:s.1.length<=900) {most:Int} {a:List Int×Int×(Int×Int×List Zbb)×Int} (ha:ZqD s most a) (h0:a.2.2.2=0):∃ t r,a.2.2.1=ZfP t/\Dep 1000 t/\F18 s a.1=some r/\r.2=true/\Z4R r.1.2.2.1=a.2.1/\Z5d s 1000 (Zcp s.1.length) a.2.1 t=true:=by
 by_cases hh:ZcO s/\1<=most/\most<=20000
 ·obtain ⟨h1,h2,h3⟩:=hh
  have X:Ctx s:=⟨h,h1,hn⟩
  rcases ha.run h1 h2 h3 with ⟨_,rfl⟩ | ⟨t,σ,v1,rfl⟩
  ·cases h0
  ·cases hf:σ.found
   ·rw [hf] at h0;cases h0
   ·have hu:ZtP s (Zcp s.1.length) < 1000:=by have:=Zlv s (Zcp s.1.length);omega
    obtain ⟨ch,need,g,hs,hD,hN,ho,hb,e1,e2⟩:=v1.good X (Zhm X) (Zhn X) (fun e=>by cases e) hf
    obtain ⟨r,er,hr⟩:=ZCn h hn σ.best
    have hr':Zq0 s σ.best r:=by
     rcases hr with ⟨hr,_⟩ | ⟨_,_,hr⟩
     ·exact absurd ⟨h1,by rw [e1];exact Zq3 X hs hN⟩ hr
     ·exact hr
    rw [e1] at hr'
    obtain rfl:=hb.uniq hr'
    exact ⟨t,_,rfl,v1.dep X (Zhm X) (Zhn X) 1000 hu,er,rfl,by rw [Z6E X hs hN hD ho hb];exact e2.symm,v1.prv X (Zhm X) (Zhn X) 1000 hu σ.cost (fun _=>Int.le_refl _)⟩
 ·rw [ha.arg hh] at h0;cases h0
end Go.Dat
namespace Go.Dat
open Go.Eng
def ZBD (s:Za5) (a b:List Int):Prop:=∀ q,RS s a q->0<=atI a q->0<=atI b q/\(Zar s.1 (atI b q)).1=(Zar s.1 (atI a q)).1/\(Zar s.1 (atI b q)).2.1=(Zar s.1 (atI a q)).2.1/\Zbh s (atI b q)=Zbh s (atI a q)
section
variable {s:Za5} {a b:List Int} (h:ZBD s a b)
include h
mutual
theorem Po.sim {c:Int} {vs ws:List Int}:Po s a c vs ws->RS s a c->Po s b c vs ws
 | .seen hm,_=>.seen hm
 | .new hm h0 hl hn,hc=>by
  obtain ⟨e0,_,_,ek⟩:=h c hc h0
  refine .new hm e0 ?_ hn
  rw [ek]
  exact PoL.sim hl fun p hp=>.step hc ⟨h0,hp⟩
theorem PoL.sim {ps vs ws:List Int}:PoL s a ps vs ws->(∀ p∈ps,RS s a p)->PoL s b ps vs ws
 | .nil,_=>.nil
 | .cons h1 h2,hp=>.cons (Po.sim h1 (hp _ (by simp))) (PoL.sim h2 fun p hm=>hp p (mem_cons_of_mem _ hm))
end
theorem PoR.sim {vs:List Int} (hv:PoR s a vs):PoR s b vs/\grS s b vs=grS s a vs:=by
 have hroots:∀ p∈[atI (Zai s) s.2.2.2.1,atI (Zai s) s.2.2.2.2.1],RS s a p:=fun p hp=>by
  rcases mem_cons.1 hp with rfl | hp
  ·exact .val
  ·rw [mem_singleton.1 hp];exact .st
 have hrs:=PoL.rs hv.po hroots (fun q hq=>by cases hq)
 have hq:∀ q∈vs,_:=fun q hq=>h q (hrs q hq) (hv.sel q hq).2.1
 refine ⟨⟨⟨hv.nd,fun q hm=>?_⟩,PoL.sim h hv.po hroots,hv.va,hv.st,hv.len⟩,?_⟩
 ·obtain ⟨h1,h2,h3⟩:=hv.sel q hm
  obtain ⟨e0,_,_,ek⟩:=hq q hm
  refine ⟨h1,e0,?_⟩
  rw [ek];exact h3
 ·have e1:∀ q∈vs,Zjp s b vs q=Zjp s a vs q:=fun q hm=>by
   obtain ⟨_,e1,e2,ek⟩:=hq q hm
   unfold Zjp;rw [e1,e2,ek]
  have e2:Zig s b vs=Zig s a vs:=by
   have key:∀ (l:List Int) (m:Int),(∀ q∈l,q∈vs)->l.foldl (ZkA s b) m=l.foldl (ZkA s a) m:=by
    intro l
    induction l with
    | nil=>intro m _;rfl
    | cons q l ih=>
     intro m hl
     rw [foldl_cons,foldl_cons,ih _ (fun p hp=>hl p (mem_cons_of_mem _ hp))]
     have:ZkA s b m q=ZkA s a m q:=by
      obtain ⟨_,e1,e2,_⟩:=hq q (hl q (by simp))
      unfold ZkA;rw [e1,e2]
     rw [this]
   exact key vs 0 fun q hq=>hq
  unfold grS
  rw [e2,map_congr_left e1]
end
open Classical in
def Z9f (s:Za5) (w:List Int) (q:Int):Int:=
 if h:∃ f∈Zaw (Zaz s) q,ZbH s.1.length (Zai s) (Zar s.1 f) (Zar s.1 (atI w q)) then h.choose else atI (Zaw (Zaz s) q) 0
def Z9k (s:Za5) (w:List Int):List Int:=(List.range s.1.length).map fun (j:Nat)=>if atI (Zai s) (j:Int)=j then Z9f s w j else -1
section
variable {s:Za5} (X:Ctx s) {w:List Int} (hw:Zdi s w)
include X hw
theorem Z7g {q:Int} (hq:ZfW s q):Z9f s w q∈Zaw (Zaz s) q:=by
 unfold Z9f
 split
 ·rename_i h;exact h.choose_spec.1
 ·have:=length_pos_iff.2 (Zqr X hq)
  exact Zqp ⟨by omega,by omega⟩
theorem Z7W {q:Int} (hq:ZfW s q) (h0:0<=atI w q):ZbH s.1.length (Zai s) (Zar s.1 (Z9f s w q)) (Zar s.1 (atI w q)):=by
 have hr:inR s.1.length (atI w q)/\atI (Zai s) (atI w q)=q:=by
  rcases hw.2 q hq.1 with e | ⟨_,e1,e2⟩
  ·omega
  ·exact ⟨e1,e2⟩
 have hex:∃ f∈Zaw (Zaz s) q,ZbH s.1.length (Zai s) (Zar s.1 f) (Zar s.1 (atI w q)):=by
  obtain ⟨f,h1,h2⟩:=X.cI.cov _ hr.1 hr.1.2
  rw [hr.2] at h1
  exact ⟨f,h1,h2⟩
 unfold Z9f
 rw [dif_pos hex]
 exact hex.choose_spec.2
theorem Z7X {j:Int} (h:inR s.1.length j):atI (Z9k s w) j=if atI (Zai s) j=j then Z9f s w j else -1:=by
 have h1:=h.1
 have h2:j.toNat < s.1.length:=by have:=h.2;omega
 have e:((j.toNat:Nat):Int)=j:=by omega
 unfold Z9k
 show ((List.range s.1.length).map _)[j.toNat]?.getD 0=_
 rw [getElem?_map,getElem?_range h2]
 show (if atI (Zai s) ((j.toNat:Nat):Int)=((j.toNat:Nat):Int) then _ else _)=_
 rw [e]
theorem Z7h {q:Int} (hq:ZfW s q):atI (Z9k s w) q=Z9f s w q:=by rw [Z7X X hw hq.1,if_pos hq.2]
theorem Z8v:Zdi s (Z9k s w):=by
 refine ⟨by simp [Z9k],fun j hj=>?_⟩
 by_cases e:atI (Zai s) j=j
 ·rw [Z7h X hw ⟨hj,e⟩]
  obtain ⟨a,_,b⟩:=X.cI.mem _ hj _ (Z7g X hw ⟨hj,e⟩)
  exact .inr ⟨e,a,b⟩
 ·rw [Z7X X hw hj,if_neg e];exact .inl rfl
theorem Z8w:ZBD s w (Z9k s w):=fun q hq h0=>by
 have hr:=RS.rep X hw hq
 have hc:=Z7W X hw hr h0
 rw [Z7h X hw hr]
 exact ⟨(X.cI.mem _ hr.1 _ (Z7g X hw hr)).1.1,hc.op,hc.imm,hc.map⟩
end
section
variable {s:Za5} (X:Ctx s) {vs:List Int} {cost:Int} {w:List Int} (hw:Zdi s w) (hrow:∀ q,ZfW s q->atI w q∈Zaw (Zaz s) q) (hv:PoR s w vs) (hwf:wfB (grS s w vs)=true)
include X hw hrow hv hwf
theorem ZBl {ch:List Int} (hs:Zdi s ch) (hp:ZnF s ch w) {q:Int} (hq:ZfW s q) (h:0<=ZaU s ch q):ZaU s ch q=atI w q:=by
 unfold ZaU at h |-
 split
 ·rename_i h0
  rcases hp q hq.1 with e | e
  ·omega
  ·exact e
 ·rename_i h0
  rw [if_neg h0] at h
  split
  ·rename_i h1
   have hm:=hrow q hq
   obtain ⟨x,hx⟩:=List.length_eq_one_iff.1 h1
   rw [hx] at hm |-
   rw [mem_singleton.1 hm];rfl
  ·rename_i h1
   rw [if_neg h1] at h;omega
theorem Z7m:∀ (n:Nat) (t:Zbb) (ch:List Int),Zdi s ch->ZnF s ch w->Z5d s n ch cost t=true->cost<=Z4R (grS s w vs).2.2.1
 | 0,_,_,_,_,h=>by cases h
 | n+1,.mk k c l,ch,hs,hp,h=>by
  obtain ⟨need,hN,_⟩:=ZCD X hs
  rw [Z5f] at h
  by_cases k1:k=1
  ·rw [if_pos k1,Z5m X hs hN] at h
   simp only [Bool.and_eq_true,decide_eq_true_eq] at h
   have:=Z6B X hs hw hp hN hv
   omega
  rw [if_neg k1] at h
  by_cases k2:k=2
  ·rw [if_pos k2] at h
   simp only [Bool.and_eq_true,decide_eq_true_eq] at h
   have hi:=h.2
   have hac:=Z7I X hs hw hp hN hv
   rw [Z5c X hs hN,hac] at hi
   by_cases ho:(lbM s ch need).2.1=[]
   ·obtain ⟨r,er,hr⟩:=ZBi X (Zhk X hs)
    have hrs:∀ q,RS s w q->Zb7 s ch q:=fun q hq=>by
     induction hq with
     | val=>exact .val
     | st=>exact .st
     | step h1 e ih=>
      have hd:=Z5V X hs hN ho ih
      have ew:=ZBl X hw hrow hv hwf hs hp (Zb7.rep X ih) hd
      have e2:=e.2
      rw [<-ew] at e2
      exact .step ih (by unfold ZfX;rw [if_pos hd];exact e2) (Zdf X (Zct X hs (Zb7.rep X ih).1 hd).1 e2)
    have hag:Zq0 s (ZdC s ch) (grS s w vs,true):=Zq0.agree (a:=w) (fun q hq=>by
     have h1:=hrs q hq
     rw [Z5W X hs hN ho h1,ZBl X hw hrow hv hwf hs hp (Zb7.rep X h1) (Z5V X hs hN ho h1)]) (.inr ⟨vs,hv,by rw [hwf];rfl⟩)
    obtain rfl:=hr.uniq hag
    rw [er] at hi
    simp at hi
   ·have hp:=length_pos_iff.2 ho
    rw [decide_eq_false (show ¬ (lbM s ch need).2.1.length=0 by omega)] at hi
    cases hi
  rw [if_neg k2] at h
  by_cases k3:k=3
  ·rw [if_pos k3] at h
   simp only [Bool.and_eq_true,decide_eq_true_eq] at h
   obtain ⟨⟨⟨⟨h1,h2⟩,h3⟩,h4⟩,h5⟩:=h
   have hrep:ZfW s c:=by
    cases hr:Zaw (Zaz s) c with
    | nil=>rw [hr] at h2;simp at h2
    | cons f _=>exact Z5e X h1 (by rw [hr];exact mem_cons_self ..)
   have hm:=hrow c hrep
   obtain ⟨i,hi⟩:=getElem?_of_mem hm
   have hil:i < l.length:=by rw [h4];exact (List.getElem?_eq_some_iff.1 hi).1
   have hz:((Zaw (Zaz s) c).zip l)[i]?=some (atI w c,l[i]):=by rw [List.getElem?_zip_eq_some];exact ⟨hi,getElem?_eq_getElem hil⟩
   have hc:=List.all_eq_true.1 h5 _ (mem_of_getElem? hz)
   refine Z7m n _ _ (Z5g X hs h1 hm) (fun j hj=>?_) hc
   rw [Za3 (by rw [hs.1];exact h1) hj.1]
   split
   ·subst ‹j=c›;exact .inr rfl
   ·exact hp j hj
  ·rw [if_neg k3] at h;cases h
end
theorem Z7Y {s:Za5} (h:ZmA s) (hn:s.1.length<=900) {n:Nat} {t:Zbb} {cost:Int} (hp:Z5d s n (Zcp s.1.length) cost t=true) {ch:List Int} {r:GrT×Bool} (er:F18 s ch=some r) (h2:r.2=true):cost<=Z4R r.1.2.2.1:=by
 obtain ⟨r',er',hr⟩:=ZCn h hn ch
 rw [er] at er'
 obtain rfl:=inj er'
 rcases hr with ⟨_,rfl⟩ | ⟨hv,hs,hb⟩
 ·cases h2
 ·have X:Ctx s:=⟨h,hv,hn⟩
  rcases hb with ⟨_,rfl⟩ | ⟨vs,hvs,rfl⟩
  ·cases h2
  ·cases hwf:wfB (grS s ch vs)
   ·rw [hwf] at h2;cases h2
   ·obtain ⟨p1,p2⟩:=PoR.sim (Z8w X hs) hvs
    have:=Z7m X (Z8v X hs) (fun q hq=>by rw [Z7h X hs hq];exact Z7g X hs hq) p1 (by rw [p2];exact hwf) n t (Zcp s.1.length) (Zhm X) (fun j hj=>.inl (ZmV X hj)) hp
    rw [p2] at this
    exact this
end Go.Dat
namespace Go.Dat
open Go.Eng
inductive ZCy (K:Nat):Nat->Zbb->Prop
 | mk {n:Nat} {k c:Int} {l:List Zbb}:l.length<=K->(∀ t∈l,ZCy K n t)->ZCy K (n+1) (.mk k c l)
theorem ZCy.up {K L n m:Nat} {t:Zbb} (h:ZCy K n t) (hK:K<=L) (hm:n<=m):ZCy L m t:=by
 induction h generalizing m with
 | mk hl _ ih=>
  cases m with
  | zero=>omega
  | succ m=>exact .mk (by omega) fun t ht=>ih t ht (by omega)
theorem ZCy.dep {K n:Nat} {t:Zbb} (h:ZCy K n t) (hK:K<=1000):Dep n t:=by
 induction h with
 | mk hl _ ih=>exact .mk (by omega) ih
section
variable {s:Za5} (X:Ctx s) {most:Nat}
include X
mutual
theorem Vs.depK {ch:List Int} {σ σ':SrS} {t:Zbb}:Vs s most ch σ t σ'->Zdi s ch->Zsw s ch->∀ n,ZtP s ch < n->ZCy 900 n t
 | .inf _ _ _,_,_,n,hu=>by obtain ⟨m,rfl⟩:∃ m,n=m+1:=⟨n - 1,by omega⟩;exact .mk (by simp) fun t ht=>by cases ht
 | .cut _ _ _ _,_,_,n,hu=>by obtain ⟨m,rfl⟩:∃ m,n=m+1:=⟨n - 1,by omega⟩;exact .mk (by simp) fun t ht=>by cases ht
 | .bad _ _ _ _ _ _,_,_,n,hu=>by obtain ⟨m,rfl⟩:∃ m,n=m+1:=⟨n - 1,by omega⟩;exact .mk (by simp) fun t ht=>by cases ht
 | .leaf _ _ _ _ _ _,_,_,n,hu=>by obtain ⟨m,rfl⟩:∃ m,n=m+1:=⟨n - 1,by omega⟩;exact .mk (by simp) fun t ht=>by cases ht
 | .br _ hN _ _ ho hl,hs,hD,n,hu=>by
  obtain ⟨m,rfl⟩:∃ m,n=m+1:=⟨n - 1,by omega⟩
  have hrep:=(ZfM X hs hD hN ho).2.2
  have hrl:=X.cI.len _ hrep.1
  obtain ⟨h1,h2⟩:=VsL.depK hl hs hD hN ho (fun f h=>h) m (by omega)
  have:=X.n
  exact .mk (by omega) h2
theorem VsL.depK {ch:List Int} {c:Int} {l:List Int} {σ σ':SrS} {ts:List Zbb} {need:List Bool} {rest:List Int}:VsL s most ch c l σ ts σ'->Zdi s ch->Zsw s ch->Zbv s ch need->(lbM s ch need).2.1=c::rest->(∀ f∈l,f∈Zaw (Zaz s) c)->∀ n,ZtP s ch<=n->ts.length=l.length/\∀ t∈ts,ZCy 900 n t
 | .nil,_,_,_,_,_,_,_=>⟨rfl,fun t ht=>by cases ht⟩
 | .cons h1 h2,hs,hD,hN,ho,hr,n,hu=>by
  obtain ⟨i1,i2⟩:=VsL.depK h2 hs hD hN ho (fun f hf=>hr f (mem_cons_of_mem _ hf)) n hu
  have hf:=hr _ (mem_cons_self ..)
  have hnu:=Zji X hs hD hN ho hf
  have hd:=Vs.depK h1 (Zgp X hs hD hN ho hf) (Zjh X hs hD hN ho hf) n (by omega)
  refine ⟨by simp [i1],fun t ht=>?_⟩
  rcases mem_cons.1 ht with rfl | ht
  ·exact hd
  ·exact i2 t ht
end
end
theorem ZqD.depK {s:Za5} (h:ZmA s) (hn:s.1.length<=900) {most:Int} {a:List Int×Int×(Int×Int×List Zbb)×Int} (ha:ZqD s most a):∃ t,a.2.2.1=ZfP t/\ZCy 900 901 t:=by
 have z:ZCy 900 901 (.mk 0 0 []):=.mk (by simp) fun t ht=>by cases ht
 by_cases hh:ZcO s/\1<=most/\most<=20000
 ·obtain ⟨h1,h2,h3⟩:=hh
  have X:Ctx s:=⟨h,h1,hn⟩
  rcases ha.run h1 h2 h3 with ⟨_,rfl⟩ | ⟨t,σ,v1,rfl⟩
  ·exact ⟨_,rfl,z⟩
  ·cases hf:σ.found
   ·exact ⟨.mk 0 0 [],rfl,z⟩
   ·exact ⟨t,rfl,Vs.depK X v1 (Zhm X) (Zhn X) 901 (by have:=Zlv s (Zcp s.1.length);omega)⟩
 ·rw [ha.arg hh];exact ⟨_,rfl,z⟩
theorem ZCQ (t:Zbb):Zre (ZfP t)=t:=by cases t;rfl
theorem ZDy {l:List Zbb} {i:Nat} {x y:Zbb} (h:y∈l.set i x):y=x\/y∈l:=by
 rcases List.mem_or_eq_of_mem_set h with h | h
 ·exact .inr h
 ·exact .inl h
theorem ZCw:∀ (n m:Nat) (t:Zbb),ZCy 900 n t->n<=m->∀ how at':Int,Ret (N10 m (ZfP t) how at') fun r=>∃ t',r=ZfP t'/\ZCy 901 (n+1) t'
 | 0,_,_,h,_,_,_=>by cases h
 | n+1,0,_,_,hm,_,_=>by omega
 | n+1,m+1,.mk k c l,h,hm,how,at'=>by
  cases h with
  | mk hl h=>
   have up:∀ t∈l,ZCy 901 (n+1) t:=fun t ht=>(h t ht).up (by omega) (by omega)
   show Ret (G10 (N10 m) (k,c,l) how at') _
   simp only [G10,wq,reduceCtorEq]
   have tail:Ret (ZAt how at' (N10 m) (false,k,c,l,0,0)) fun r=>∃ t',r=ZfP t'/\ZCy 901 (n+1+1) t':=by
    simp only [ZAt,ZAr,wq,reduceCtorEq]
    refine ZCc (by omega) (by omega) fun r r0 r1=>?_
    refine ⟨fun _=>ZCc (by omega) (by omega) fun r r0 r1=>⟨.mk r c l,rfl,.mk (by omega) up⟩,fun _=>⟨fun _=>ZCc (by omega) (by omega) fun r r0 r1=>⟨.mk k _ l,rfl,.mk (by omega) up⟩,fun _=>⟨fun _=>?_,fun _=>⟨fun _=>⟨.mk k c [],rfl,.mk (by simp) fun t ht=>by cases ht⟩,fun _=>⟨.mk k c l,rfl,.mk (by omega) up⟩⟩⟩⟩⟩
    refine ⟨fun _=>⟨fun _=>⟨.mk k c (l++[.mk 1 0 []]),rfl,.mk (by simp;omega) fun t ht=>?_⟩,fun h=>absurd h (by simp only [length_cons,length_nil];omega)⟩,fun h=>absurd h (by omega)⟩
    rcases mem_append.1 ht with ht | ht
    ·exact up t ht
    ·rw [mem_singleton.1 ht];exact .mk (by simp) fun t ht=>by cases ht
   refine ⟨fun _=>⟨fun hp=>ZCc (by omega) (by omega) fun r r0 r1=>?_,fun _=>tail⟩,fun _=>tail⟩
   by_cases hr:r=0
   ·rw [show (r != 0)=false by simp [hr]]
    exact tail
   ·rw [show (r != 0)=true by simp [hr]]
    simp only [ZAt,wq,reduceCtorEq]
    refine ZCc (by omega) (by omega) fun i i0 i1=>⟨fun _=>Zaj i0 i1 fun y hy hym=>?_,fun h=>absurd h (by omega)⟩
    simp only [Za4 hy]
    refine (ZCw n m y (h y hym) (by omega) how _).mono fun q _ ⟨t',e,hD⟩=>?_
    subst e
    rw [ZCQ]
    refine ⟨.mk k c (Zaq l i t'),rfl,.mk (by rw [Zay];omega) fun t ht=>?_⟩
    have ei:i=((i.toNat:Nat):Int):=by omega
    rw [ei,Zcf] at ht
    rcases ZDy ht with rfl | ht
    ·exact hD
    ·exact up t ht
theorem ZCg (l pairs which trees:List Int) (other:List (List Int)) (how at':Int) (hl:∀ x∈l,I64 x):F3 l pairs which trees other how at'=some true:=by
 refine Ret.eq ?_
 simp only [F3,wq,reduceCtorEq]
 refine (ZEP l pairs hl).mono fun s _ h2=>?_
 have hsat:=Zzu.satH h2
 have hn:s.1.length<=900:=by have:=h2.1.len;omega
 refine (ZBu hsat hn which).mono fun ch _ hch=>?_
 obtain ⟨rc,erc,_⟩:=ZCn hsat hn ch
 simp only [Z5D hsat hn erc,wq,reduceCtorEq]
 refine (Z1D hsat hn 200).mono fun a _ ha=>?_
 obtain ⟨t0,et0,hD0⟩:=ha.depK hsat hn
 refine Ret.mono (show Ret (F8 trees 0) _ from Z4K 1000 trees 0 (by omega) (by omega) (by omega)) fun tr _ ⟨t,et,hT⟩=>?_
 -- behind the certificates
 have rest:∀ taken:Bool,(taken=true->rc.2=true/\∃ t',Z5d s 1000 (Zcp s.1.length) (Z4R rc.1.2.2.1) t'=true)->Ret (ZB4 other s (Z4R rc.1.2.2.1,rc.2) a taken) fun b=>b=true:=by
  intro taken ht
  have least:taken=true->a.2.2.2=0->Z4R rc.1.2.2.1<=a.2.1:=fun h1 h0=>by
   obtain ⟨_,t',hp⟩:=ht h1
   obtain ⟨t1,r,_,_,er,r1,r2,_⟩:=Z68 hsat hn ha h0
   have:=Z7Y hsat hn hp er r1
   omega
  have fin:a.2.2.2=0->F9 s a.1 a.2.1 a.2.2.1=some true:=fun h0=>by
   obtain ⟨t1,r,e1,hD1,er,r1,r2,hp⟩:=Z68 hsat hn ha h0
   have c1:=Z5u hsat hn er a.2.1 hD1
   rw [r1,decide_eq_true r2,hp] at c1
   rw [e1,c1];rfl
  have loop:Ret (ZB8 other s (Z4R rc.1.2.2.1,rc.2) a taken false) fun b=>b=true:=by
   simp only [ZB8,wq,reduceCtorEq]
   refine Zac (fun i:Int=>∃ k:Nat,i=k/\k<=12) (fun i=>12 - i.toNat) ?_ _ ⟨0,rfl,by omega⟩
   rintro _ ⟨k,rfl,hk⟩
   have hw:=Zab k (by omega)
   simp only [ZB7,ZB6,ZB5,ZES,wq,reduceCtorEq,hw]
   have tail:(¬a.2.2.2=0->Ret F11 fun b=>b=true)/\(a.2.2.2=0->Ret (F9 s a.1 a.2.1 a.2.2.1) fun b=>(b=true->Ret F11 fun b=>b=true)/\(b=false->False)):=
    ⟨fun _=>⟨true,rfl,rfl⟩,fun h0=>⟨true,fin h0,fun _=>⟨true,rfl,rfl⟩,fun e=>by cases e⟩⟩
   refine ⟨fun hlt=>⟨fun h12=>Zaj (by omega) hlt fun y hy _=>?_,fun _=>tail⟩,fun _=>tail⟩
   refine (ZBu hsat hn y).mono fun c2 _ hc2=>?_
   obtain ⟨r2,er2,_⟩:=ZCn hsat hn c2
   simp only [Z5D hsat hn er2,wq,reduceCtorEq]
   have next:(∃ k_1:Nat,((k+1:Nat):Int)=(k_1:Int)/\k_1<=12)/\12 - (((k+1:Nat):Int)).toNat < 12 - ((k:Int)).toNat:=⟨⟨k+1,rfl,by omega⟩,by omega⟩
   refine ⟨fun e=>⟨fun ht2=>⟨fun hlt2=>?_,fun _=>next⟩,fun _=>next⟩,fun _=>next⟩
   obtain ⟨_,t',hp⟩:=ht ht2
   have:=Z7Y hsat hn hp er2 e
   omega
  simp only [ZB4,wq,reduceCtorEq]
  refine ⟨fun h1=>⟨fun h0=>?_,fun _=>loop⟩,fun _=>loop⟩
  have:=least h1 h0
  rw [decide_eq_false (show ¬ a.2.1 < Z4R rc.1.2.2.1 by omega)]
  exact loop
 simp only [et,wq,reduceCtorEq]
 refine ⟨fun e=>?_,fun _=>rest false fun h=>by cases h⟩
 have cx:∀ t':Zbb,Dep 1000 t'->F9 s ch (Z4R rc.1.2.2.1) (ZfP t')=some (Z5d s 1000 (Zcp s.1.length) (Z4R rc.1.2.2.1) t'):=fun t' ht'=>by
  have:=Z5u hsat hn erc (Z4R rc.1.2.2.1) ht'
  rw [e,decide_eq_true rfl,Bool.true_and,Bool.true_and] at this
  exact this
 rw [cx t hT]
 simp only [wq,reduceCtorEq]
 refine ⟨fun hb=>rest true fun _=>⟨e,t,hb⟩,fun _=>?_⟩
 rw [et0]
 refine Ret.mono (show Ret (F10 (ZfP t0) how at') _ from ZCw 901 1000 t0 hD0 (by omega) how at') fun q _ ⟨t',e',hD'⟩=>?_
 subst e'
 rw [cx t' ((hD'.dep (by omega)).up (by omega))]
 simp only [wq,reduceCtorEq]
 exact rest _ fun hb=>⟨e,t',hb⟩
theorem ZCi (x0 x1 x2 x3:List Int) (x4:List (List Int)) (x5 x6:Int) (_:x0.length<=9223372036854775807) (hw0:∀ x∈x0,I64 x) (_:x1.length<=9223372036854775807) (_:∀ x∈x1,I64 x) (_:x2.length<=9223372036854775807) (_:∀ x∈x2,I64 x) (_:x3.length<=9223372036854775807) (_:∀ x∈x3,I64 x) (_:x4.length<=9223372036854775807) (_:∀ y∈x4,y.length<=9223372036854775807/\∀ z∈y,I64 z) (_:I64 x5) (_:I64 x6):F3 x0 x1 x2 x3 x4 x5 x6=some true:=
 ZCg x0 x1 x2 x3 x4 x5 x6 hw0
end Go.Dat
end
