import Derived.Test.YtipafbfdjfbkbaaGreatDoorE2Plan3
set_option linter.unusedVariables false
set_option linter.unusedSectionVars false
open Option (bind_eq_some_iff map_eq_some_iff)
open Option.some (injEq)
open Bool (and_eq_true)
open Nat (le_refl le_trans)
namespace Go.Eng
section
variable [Gl] [Mx] {P:Program} {K:ZcY} {E:Zcn} {F:Fr} {a:Nat->AV} {fp:Nat->Nat->Prop} {s s0:S2} {T:Tm} {S S':St} {r:Rn}
theorem ZgO {T2:Tr V2}:∀ {ks:List Tmp} {k:Tmp} {v:V2},(Znw T2 ks).get k=some v->T2.get k=some v
 | [],k,v,h=>by simp [Znw] at h
 | q::ks,k,v,h=>by
  unfold Znw at h;split at h
  ·rename_i w hw;rw [Tr.get_put] at h;split at h
   ·rename_i e;cases h;subst e;exact hw
   ·exact ZgO h
  ·exact ZgO h
theorem Zn7 {σ β:Type} {G:σ->Option (σ⊕β)} {s:σ} {b:β} (h:Zao G s=some b):∃ n,Zd9 G n s=some b:=by
 unfold Zao at h;split at h
 ·rename_i hx;cases h;exact hx.choose_spec
 ·cases h
theorem Zuz (R:Rel F a fp s T S) (t:Tmp):Rel F a fp (Zum s t) T S:=by
 unfold Zum;split
 ·split
  ·rename_i c off hc l w hl;exact R.lock hl rfl (h':=S.heap) (fun _=>.inl rfl)
  ·exact R
 ·exact R
theorem Z0L (R:Rel F a fp s T S) (q:Tmp) (o:Nat) {α:Type} {k:S2->Option α} {r:α} (h:nn2 s q o k=some r):∃ s',Rel F a fp s' T S/\k s'=some r:=by
 unfold nn2 at h;split at h
 ·split at h
  ·rename_i c off hc l w hl;split at h
   ·rename_i t x hx;cases he:List.isEmpty x
    ·rw [he] at h;refine ⟨_,R.rebox hl (fun cs hcs=>Zbl.set hx (fun u hu=>?_) hcs) (fun o' ho'=>by
      by_cases e:o'=o
      ·subst e;rw [List.getElem?_set_self (List.getElem?_eq_some_iff.1 hx).1] at ho';cases ho'
      ·rwa [List.getElem?_set_ne (by omega)] at ho'),h⟩
     cases hu with | dat d=>
     have hx:x≠[]:=fun e=>by subst e;cases he
     refine .nsl (fun h=>by cases h) (fun _=>⟨hx,?_⟩);rcases DR.list d with hv | ⟨hv,_⟩
     ·exact hv
     ·exact absurd hv hx
    ·rw [he] at h;cases h
   ·exact ⟨s,R,h⟩
  ·exact ⟨s,R,h⟩
 ·exact ⟨s,R,h⟩
theorem Zu0 (R:Rel F a fp s T S) (q t:Tmp):∃ fp',Rel F a fp' (Zrq s q t) T S:=by
 unfold Zrq;split
 ·rename_i c i0 z0 o0 d hq ht;split
  ·rename_i w l e w' m h3 h4;split
   ·rename_i hww _;cases hb:(d.beq e.2&&!d.beq c)
    ·exact ⟨fp,R⟩
    ·rw [Zag];simp only [and_eq_true,Zad,Bool.not_eq_true'] at hb;obtain ⟨hde,hdc⟩:=hb;subst hww;obtain ⟨ei,ed⟩:=e;dsimp only at hde;subst hde;have hcd:c≠d:=fun e=>by
      have:d.beq c=true:=Zad.2 e.symm;rw [this] at hdc;cases hdc
     have m2:Znx S.heap (fp d) (a d) w' m true:=R.chunks _ _ h4;have hCk:=R.chunks _ _ h3;rcases hCk.2 with ⟨hl,_⟩ | ⟨q,o,cap,cs,pre,post,hv,hq,hbk,hpo,hcl,hout,fps,k1,k2,k3⟩
     ·subst hl;refine ⟨fp,((R.del d).set (c:=c) (ck:=.own2 w' [] (some (ei,d))) (ck':=.own2 w' (Zaq [] ei m) none) (by show (s.H.del d).get c=_;rw [Tr.get_del,if_neg hcd];exact h3) rfl (fun _ _ _=>rfl) (le_refl _) ⟨hCk.1,.inl ⟨by simp [Zaq],by assumption⟩⟩)⟩
     ·have hq0:∀ n,fp d n->¬ fp c n:=fun n h1=>R.dis d c _ _ h4 h3 hcd.symm (.inl rfl) n h1;obtain ⟨_,hcell⟩:=hout ei d rfl
      let fp3:Nat->Nat->Prop:=fun x n=>if x=c then fp c n\/fp d n else fp x n
      have f1:fp3 c=fun n=>fp c n\/fp d n:=by funext n;exact if_pos rfl
      have f2:∀ x,x≠c->fp3 x=fp x:=fun x h=>by funext n;exact if_neg h
      have g:∀ x kd,((s.H.del d).put c (.own2 w' (Zaq l ei m) none)).get x=some kd->(x=c/\kd=.own2 w' (Zaq l ei m) none)\/(x≠c/\x≠d/\s.H.get x=some kd):=by
       intro x kd hk;rw [Tr.get_put] at hk;split at hk
       ·cases hk;exact .inl ⟨by assumption,rfl⟩
       ·rw [Tr.get_del] at hk;split at hk
        ·cases hk
        ·exact .inr ⟨by assumption,by assumption,hk⟩
      have low:∀ x kd,((s.H.del d).put c (.own2 w' (Zaq l ei m) none)).get x=some kd->∀ n,fp3 x n->∃ d1 k1,s.H.get d1=some k1/\fp d1 n/\(kd.w=true->k1.w=true):=by
       intro x kd hk n hn;rcases g x kd hk with ⟨rfl,rfl⟩ | ⟨n1,_,hk⟩
       ·rw [f1] at hn;rcases hn with hn | hn
        ·exact ⟨_,_,h3,hn,fun _=>rfl⟩
        ·exact ⟨_,_,h4,hn,fun _=>rfl⟩
       ·rw [f2 x n1] at hn;exact ⟨x,kd,hk,hn,fun h=>h⟩
      refine ⟨fp3,{ slots:=R.slots,chunks:=?_,dis:=?_,lt:=?_,nx:=?_,fex:=R.fex,fro:=R.fro,dex:=?_,dro:=?_ }⟩
      ·intro x kd hk;rcases g x kd hk with ⟨rfl,rfl⟩ | ⟨n1,n2,hk⟩
       ·rw [f1];refine ⟨hCk.1,.inr ⟨q,o,cap,cs,pre,post,by rw [hv];simp [Zaq],.inl hq,hbk,hpo,by simp [Zaq,hcl],(fun i d he=>by cases he),fun j n=>(j=ei.toNat/\fp d n)\/(j≠ei.toNat/\fps j n),?_,?_,?_⟩⟩
        ·rintro j n (⟨_,hn⟩ | ⟨_,hn⟩)
         ·exact ⟨.inr hn,fun e=>hq0 n hn (by rw [e];exact hq)⟩
         ·exact ⟨.inl (k1 j n hn).1,(k1 j n hn).2⟩
        ·rintro j j' n hne (⟨e1,hn⟩ | ⟨e1,hn⟩) (⟨e2,hn'⟩ | ⟨e2,hn'⟩)
         ·exact hne (e1.trans e2.symm)
         ·exact hq0 n hn (k1 j' n hn').1
         ·exact hq0 n hn' (k1 j n hn).1
         ·exact k2 j j' n hne hn hn'
        ·intro j x hx _;unfold Zaq at hx;rw [List.getElem?_set] at hx;by_cases hji:ei.toNat=j
         ·rw [if_pos hji] at hx;split at hx
          ·cases hx;exact ⟨a d,by rw [<-hji];exact hcell,m2.mono (fun n hn=>.inl ⟨hji.symm,hn⟩) (fun n hn=>rfl)⟩
          ·cases hx
         ·rw [if_neg hji] at hx;obtain ⟨cj,p1,p2⟩:=k3 j x hx (fun e=>hji (by simp at e;omega));exact ⟨cj,p1,p2.mono (fun n hn=>.inr ⟨fun e=>hji e.symm,hn⟩) (fun n hn=>rfl)⟩
       ·rw [f2 x n1];exact R.chunks x kd hk
      ·intro x x' kd kd' hk hk' hne hw n hf hf';replace hk:=g x kd hk;replace hk':=g x' kd' hk';rcases hk with ⟨rfl,rfl⟩ | ⟨n1,n2,hk⟩<;>rcases hk' with ⟨rfl,rfl⟩ | ⟨n1',n2',hk'⟩
       ·exact hne rfl
       ·rw [f1] at hf;rw [f2 _ n1'] at hf';rcases hf with hf | hf
        ·exact R.dis _ x' _ kd' h3 hk' (fun e=>n1' e.symm) (.inl rfl) n hf hf'
        ·exact R.dis d x' _ kd' h4 hk' (fun e=>n2' e.symm) (.inl rfl) n hf hf'
       ·rw [f1] at hf';rw [f2 _ n1] at hf;rcases hf' with hf' | hf'
        ·exact R.dis x _ kd _ hk h3 n1 (.inr rfl) n hf hf'
        ·exact R.dis x d kd _ hk h4 n2 (.inr rfl) n hf hf'
       ·rw [f2 _ n1] at hf;rw [f2 _ n1'] at hf';exact R.dis x x' kd kd' hk hk' hne hw n hf hf'
      ·intro x kd hk n hn;obtain ⟨d1,k1,g1,g2,_⟩:=low x kd hk n hn;exact R.lt d1 k1 g1 n g2
      ·intro x kd hk;rcases g x kd hk with ⟨rfl,_⟩ | ⟨_,_,hk⟩
       ·exact R.nx _ _ h3
       ·exact R.nx _ _ hk
      ·intro x kd hk n hn;obtain ⟨d1,k1,g1,g2,_⟩:=low x kd hk n hn;exact R.dex d1 k1 g1 n g2
      ·intro x kd hk hw n hn;obtain ⟨d1,k1,g1,g2,g3⟩:=low x kd hk n hn;exact R.dro d1 k1 g1 (g3 hw) n g2
   ·exact ⟨fp,R⟩
  ·exact ⟨fp,R⟩
 ·exact ⟨fp,R⟩
theorem Zmm (R:Rel F a fp s T S) {c:Operand} {b:Bool} (h:ev2 s c=some (.dat .bool b)):Rel F a fp (ZzZ s c b) T S:=by
 unfold ZzZ;split
 ·exact Zpp R h
 ·exact R
theorem Zpt (H:TyR P E) (HK:KOk E K) {nt:Nat}:∀ (c:AC),c.ok=true->∀ {α:Type} {s:S2} {T:Tm} {S:St} {F:Fr} {a:Nat->AV} {fp:Nat->Nat->Prop} {k:X->S2->Option α} {r:α},Rel F a fp s T S->Zgc E nt c s k=some r ->
 ∃ y T' S' s' a' fp',Zeu P K nt c.er T S=some (y,T',S')/\S.next<=S'.next/\Rel F a' fp' s' T' S'/\(∀ t,c.asg t=false->T'.get t=T.get t)/\k y s'=some r:=by
 intro c
 induction c with
 | skip=>intro _ α s T S F a fp k r R h;exact ⟨.n,T,S,s,a,fp,ZjM P K nt T S,le_refl _,R,fun _ _=>rfl,h⟩
 | ret=>intro _ α s T S F a fp k r R h;exact ⟨.r,T,S,s,a,fp,ZlJ P K nt T S,le_refl _,R,fun _ _=>rfl,h⟩
 | exit i=>intro _ α s T S F a fp k r R h;exact ⟨.e i,T,S,s,a,fp,ZjN P K nt i T S,le_refl _,R,fun _ _=>rfl,h⟩
 | ops l=>
  intro _ α s T S F a fp k r R h;obtain ⟨s',T',S',a',fp',e1,n1,R',h,hg⟩:=Zle H HK l R h;exact ⟨.n,T',S',s',a',fp',by show Zeu P K nt (.ops l) T S=_;rw [ZlK,e1,Zap],n1,R',hg,h⟩
 | plan l=>
  intro _ α s T S F a fp k r R h;obtain ⟨s',T',S',a',fp',e1,n1,R',h,hg⟩:=ZcN H HK l R .nil h;exact ⟨.n,T',S',s',a',fp',by show Zeu P K nt (.plan l) T S=_;rw [ZjO,e1,Zap],n1,R',hg,h⟩
 | seq x y ihx ihy=>
  intro hok α s T S F a fp k r R h;simp only [AC.ok,and_eq_true] at hok;obtain ⟨z,T1,S1,s1,a1,fp1,e1,n1,R1,g1,h⟩:=ihx hok.1 R h;have hseq:Zeu P K nt (AC.er (.seq x y)) T S=_:=Zi3 P K nt x.er y.er T S;have asg1:∀ t,AC.asg t (.seq x y)=false->x.asg t=false/\y.asg t=false:=fun t ht=>by simpa [AC.asg] using ht
  cases z with
  | n=>
   obtain ⟨z,T2,S2',s2,a2,fp2,e2,n2,R2,g2,h⟩:=ihy hok.2 R1 h;exact ⟨z,T2,S2',s2,a2,fp2,by rw [hseq,e1,Zap];exact e2,le_trans n1 n2,R2,fun t ht=>by rw [g2 t (asg1 t ht).2,g1 t (asg1 t ht).1],h⟩
  | e i=>exact ⟨.e i,T1,S1,s1,a1,fp1,by rw [hseq,e1,Zap],n1,R1,fun t ht=>g1 t (asg1 t ht).1,h⟩
  | r=>exact ⟨.r,T1,S1,s1,a1,fp1,by rw [hseq,e1,Zap],n1,R1,fun t ht=>g1 t (asg1 t ht).1,h⟩
 | jn sh x y ihx ihy=>
  intro hok α s T S F a fp k r R h;simp only [AC.ok,and_eq_true] at hok;obtain ⟨⟨⟨hsh,hfix⟩,hx⟩,hy⟩:=hok;simp only [Zgc] at h;obtain ⟨w,h1,h2⟩:=bind_eq_some_iff.1 h;have Rf:=R.fix sh.fixed;obtain ⟨z,T1,S1,s1,a1,fp1,e1,n1,R1,g1,h3⟩:=ihx hx Rf h1;have hseq:Zeu P K nt (AC.er (.jn sh x y)) T S=_:=Zi3 P K nt x.er y.er T S;have asg1:∀ t,AC.asg t (.jn sh x y)=false->x.asg t=false/\y.asg t=false:=fun t ht=>by simpa [AC.asg] using ht
  cases z with
  | n=>
   obtain ⟨v,hv,rfl⟩:=map_eq_some_iff.1 h3;have hT:∀ q∈sh.fixed,T1.get q=T.get q:=fun q hq=>g1 q (by have:=List.all_eq_true.1 hfix q hq;simpa using this);obtain ⟨a2,fp2,R2⟩:=ZiG R hsh R1 hT n1 hv;have R3:=R.unfix R2 n1;obtain ⟨z,T2,S2',s2,a3,fp3,e2,n2,R4,g2,h⟩:=ihy hy R3 h2;exact ⟨z,T2,S2',s2,a3,fp3,by rw [hseq,e1,Zap];exact e2,le_trans n1 n2,R4,fun t ht=>by rw [g2 t (asg1 t ht).2,g1 t (asg1 t ht).1],h⟩
  | e i=>
   obtain ⟨v,hv,rfl⟩:=map_eq_some_iff.1 h3;cases h2;exact ⟨.e i,T1,S1,s1,a1,fp1,by rw [hseq,e1,Zap],n1,R.unfix R1 n1,fun t ht=>g1 t (asg1 t ht).1,hv⟩
  | r=>
   obtain ⟨v,hv,rfl⟩:=map_eq_some_iff.1 h3;cases h2;exact ⟨.r,T1,S1,s1,a1,fp1,by rw [hseq,e1,Zap],n1,R.unfix R1 n1,fun t ht=>g1 t (asg1 t ht).1,hv⟩
 | cond c x y ihx ihy=>
  intro hok α s T S F a fp k r R h;simp only [AC.ok,and_eq_true] at hok;simp only [Zgc,Zaa] at h;obtain ⟨v,hv,h⟩:=h;obtain ⟨u,eu,hu⟩:=Zbd R hv;have hc:Zeu P K nt (AC.er (.cond c x y)) T S=_:=ZjP P K nt c x.er y.er T S;have asg1:∀ t,AC.asg t (.cond c x y)=false->x.asg t=false/\y.asg t=false:=fun t ht=>by simpa [AC.asg] using ht
  split at h
  ·rename_i b;cases hu with | dat d=>
   have:=DR.bool d;subst this;cases b
   ·obtain ⟨z,T2,S2',s2,a3,fp3,e2,n2,R4,g2,h⟩:=ihy hok.2 (Zmm R hv) h;exact ⟨z,T2,S2',s2,a3,fp3,by rw [hc,eu,Zap];exact e2,n2,R4,fun t ht=>g2 t (asg1 t ht).2,h⟩
   ·obtain ⟨z,T2,S2',s2,a3,fp3,e2,n2,R4,g2,h⟩:=ihx hok.1 (Zmm R hv) h;exact ⟨z,T2,S2',s2,a3,fp3,by rw [hc,eu,Zap];exact e2,n2,R4,fun t ht=>g2 t (asg1 t ht).1,h⟩
  ·cases h
 | block id x ih=>
  intro hok α s T S F a fp k r R h;simp only [Zgc] at h;obtain ⟨z,T1,S1,s1,a1,fp1,e1,n1,R1,g1,h⟩:=ih hok R h;have hb:Zeu P K nt (AC.er (.block id x)) T S=_:=ZhF P K nt id x.er T S;cases z with
  | n=>exact ⟨.n,T1,S1,s1,a1,fp1,by rw [hb,e1,Zap],n1,R1,g1,h⟩
  | r=>exact ⟨.r,T1,S1,s1,a1,fp1,by rw [hb,e1,Zap],n1,R1,g1,h⟩
  | e i=>
   dsimp only at h;cases hi:i.beq id
   ·rw [hi] at h;exact ⟨.e i,T1,S1,s1,a1,fp1,by rw [hb,e1,Zap];simp only [hi,cond_false],n1,R1,g1,h⟩
   ·rw [hi] at h;exact ⟨.n,T1,S1,s1,a1,fp1,by rw [hb,e1,Zap];simp only [hi,cond_true],n1,R1,g1,h⟩
 | keep ks x ih=>
  intro hok α s T S F a fp k r R h;simp only [Zgc] at h;exact ih hok (R.less (fun q v hq=>R.slots q v (ZgO hq))) h
 | lock t x ih=>
  intro hok α s T S F a fp k r R h;simp only [Zgc] at h;exact ih hok (Zuz R t) h
 | nn q o x ih=>
  intro hok α s T S F a fp k r R h;simp only [Zgc] at h;obtain ⟨s',R',h'⟩:=Z0L R q o h;exact ih hok R' h'
 | back q t x ih=>
  intro hok α s T S F a fp k r R h;simp only [Zgc] at h;obtain ⟨y,T',S',s',a',fp',e1,n1,R',hg,h⟩:=ih hok R h;obtain ⟨fp'',R''⟩:=Zu0 R' q t;exact ⟨y,T',S',Zrq s' q t,a',fp'',e1,n1,R'',hg,h⟩
 | loop sh x ih=>
  intro hok α s T S F a fp k r R h;simp only [AC.ok,and_eq_true] at hok;obtain ⟨⟨hsh,hfix⟩,hx⟩:=hok;simp only [Zgc,Zaa] at h;obtain ⟨x0,h0,h⟩:=h;obtain ⟨n,hN⟩:=Zn7 h;clear h;have hfx:∀ q∈sh.fixed,x.asg q=false:=fun q hq=>by have:=List.all_eq_true.1 hfix q hq;simpa using this
  obtain ⟨a0,fp0,R0⟩:=ZiG R hsh (R.fix sh.fixed) (fun _ _=>rfl) (le_refl _) h0
  -- round after round
  have key:∀ (n:Nat) (xi:sh.den) (Ti:Tm) (Si:St) (ai:Nat->AV) (fpi:Nat->Nat->Prop),Rel (F.fix s fp sh.fixed S) ai fpi (emb sh s xi) Ti Si->(∀ q∈sh.fixed,Ti.get q=T.get q)->S.next<=Si.next->(∀ t,x.asg t=false->Ti.get t=T.get t) ->
   Zd9 (fun x'=>Zgc E nt x (α:=sh.den⊕α) (emb sh s x') fun y s'=>match y with
    | .n=>(prj sh s').map .inl
    | .e i=>(k (.e i) s').map .inr
    | .r=>(k .r s').map .inr) n xi=some r ->
   ∃ y T' S' s' a' fp',Zeu P K nt (.loop x.er) Ti Si=some (y,T',S')/\S.next<=S'.next/\Rel F a' fp' s' T' S'/\(∀ t,x.asg t=false->T'.get t=T.get t)/\k y s'=some r:=by
   intro n
   induction n with
   | zero=>intro xi Ti Si ai fpi Ri hTi hni hgi h;cases h
   | succ n ihn=>
    intro xi Ti Si ai fpi Ri hTi hni hgi h;simp only [Zd9] at h;obtain ⟨w,h1,h2⟩:=bind_eq_some_iff.1 h;obtain ⟨z,T1,S1,s1,a1,fp1,e1,n1,R1,g1,h3⟩:=ih hx Ri h1;have hT1:∀ q∈sh.fixed,T1.get q=T.get q:=fun q hq=>by rw [g1 q (hfx q hq),hTi q hq]
    have hn1:S.next<=S1.next:=le_trans hni n1;have hg1:∀ t,x.asg t=false->T1.get t=T.get t:=fun t ht=>by rw [g1 t ht,hgi t ht]
    cases z with
    | n=>
     obtain ⟨v,hv,rfl⟩:=map_eq_some_iff.1 h3;obtain ⟨a2,fp2,R2⟩:=ZiG R hsh R1 hT1 hn1 hv;obtain ⟨y,T',S',s',a',fp',e2,n2,R3,g3,h⟩:=ihn v T1 S1 a2 fp2 R2 hT1 hn1 hg1 h2;exact ⟨y,T',S',s',a',fp',by rw [ZeK,e1,Zap];exact e2,n2,R3,g3,h⟩
    | e i=>
     obtain ⟨v,hv,rfl⟩:=map_eq_some_iff.1 h3;cases h2;exact ⟨.e i,T1,S1,s1,a1,fp1,by rw [ZeK,e1,Zap],hn1,R.unfix R1 hn1,hg1,hv⟩
    | r=>
     obtain ⟨v,hv,rfl⟩:=map_eq_some_iff.1 h3;cases h2;exact ⟨.r,T1,S1,s1,a1,fp1,by rw [ZeK,e1,Zap],hn1,R.unfix R1 hn1,hg1,hv⟩
  exact key n x0 T S a0 fp0 R0 (fun _ _=>rfl) (le_refl _) (fun _ _=>rfl) hN
theorem Zmn {m:Nat}:∀ (ts:List Ty) (x:Zfj ts) (i:Nat),(ts.all fun t=>!t.isProd)=true->∀ k v,(ZkV ts x i).get k=some v->∃ u,(ZcP (Zjm ts x) i).get k=some u/\VR2 m a v u
 | [],x,i,_,k,v,h=>by simp [ZkV] at h
 | [t],x,i,hp,k,v,h=>by
  simp only [List.all_cons,List.all_nil,Bool.and_true,Bool.not_eq_true'] at hp;simp only [ZkV,Zjm,ZcP,Tr.get_put] at h |-
  split at h
  ·rename_i e;cases h;rw [if_pos e];exact ⟨_,rfl,.dat (DR.enc' x hp)⟩
  ·simp at h
 | t::u::ts,x,i,hp,k,v,h=>by
  rw [List.all_cons,and_eq_true,Bool.not_eq_true'] at hp;simp only [ZkV,Zjm,ZcP,Tr.get_put] at h |-
  split at h
  ·rename_i e;cases h;rw [if_pos e];exact ⟨_,rfl,.dat (DR.enc' x.1 hp.1)⟩
  ·rename_i e;rw [if_neg e];exact Zmn (u::ts) x.2 (i+1) hp.2 k v h
theorem Zlf (H:TyR P E) (R:Rel F a fp s T S):∀ {rs:List ResultVar} {vs:List V2},ZkW E s rs=some vs->∃ us,Zhq P T S rs=some us/\Zbl s.nx a vs us
 | [],vs,h=>by cases h;exact ⟨[],rfl,.nil⟩
 | q::rs,vs,h=>by
  simp only [ZkW,Zaa,injEq] at h;obtain ⟨v,h1,ws,h2,rfl⟩:=h;obtain ⟨us,e2,r2⟩:=Zlf H R h2;have:∃ u,ZzK P T S q=some u/\VR2 s.nx a v u:=by
   cases q with
   | tmp t=>exact R.slots t v h1
   | cell c t=>
    simp only [Z1X,Zaa] at h1;obtain ⟨p,hp,h1⟩:=h1;have hk:∃ s2,((ev2 s (.tmp c)).ob fun p=>Zg9 E s t p (fun v s'=>some (v,s')))=some (v,s2):=by
     simp only [ev2,hp,Zap];revert h1;unfold Zg9;cases E.ty t with
     | none=>intro h1;cases h1
     | some u=>
      simp only [Zap];intro h1;cases p<;>(try dsimp only at h1 |-)<;>try (cases h1;done)
      case bx c0 off=>
       simp only [Zaa] at h1 |-
       obtain ⟨ck,g1,h1⟩:=h1;cases ck<;>(try dsimp only at h1)<;>try (cases h1;done)
       cases hu:u.agg<;>rw [hu] at h1
       ·simp only [Zan,Zaa] at h1;obtain ⟨w,g2,h1⟩:=h1;cases h1;exact ⟨s,_,g1,by dsimp only;rw [Zan,Zaa];exact ⟨_,g2,rfl⟩⟩
       ·simp only [Zag,Zak] at h1;obtain ⟨g2,h1⟩:=h1;cases h1;exact ⟨s,_,g1,by dsimp only;rw [Zag,Zak];exact ⟨g2,rfl⟩⟩
      case fpe w x=>
       simp only [Zaa] at h1 |-
       obtain ⟨y,g1,h1⟩:=h1;cases h1;exact ⟨s,_,g1,rfl⟩
      case dat w x=>
       cases w<;>(try dsimp only at h1 |-)<;>try (cases h1;done)
       simp only [Zaa] at h1 |-
       obtain ⟨y,g1,h1⟩:=h1;cases h1;exact ⟨s,_,g1,rfl⟩
      case ea c0 i=>
       simp only [Zaa] at h1 |-
       obtain ⟨ck,g1,h1⟩:=h1;cases ck<;>(try dsimp only at h1)<;>try (cases h1;done)
       obtain ⟨y,g3,h1⟩:=bind_eq_some_iff.1 h1;simp only [Zaa] at h1;obtain ⟨w,g4,h1⟩:=h1;cases h1;exact ⟨s,_,g1,by dsimp only;exact bind_eq_some_iff.2 ⟨y,g3,by rw [g4,Zap]⟩⟩
      case el c0 i z off=>
       simp only [Zaa] at h1 |-
       obtain ⟨ck,g1,h1⟩:=h1;cases ck<;>(try dsimp only at h1)<;>try (cases h1;done)
       rw [Zak] at h1;obtain ⟨g2,h1⟩:=h1;obtain ⟨y,g3,h1⟩:=bind_eq_some_iff.1 h1;simp only [Zaa] at h1;obtain ⟨w,g4,h1⟩:=h1;cases h1;exact ⟨s,_,g1,by dsimp only;rw [Zak];exact ⟨g2,bind_eq_some_iff.2 ⟨y,g3,by rw [g4,Zap]⟩⟩⟩
    obtain ⟨s2,hk⟩:=hk;obtain ⟨v',u,e1,hv,hkk⟩:=ZlT (K:=fun _ _ _=>none) H R hk;simp only [injEq,Prod.mk.injEq] at hkk;obtain ⟨rfl,_⟩:=hkk;simp only [opK,aOp] at e1;cases hte:te P t with
    | none=>rw [hte] at e1;cases e1
    | some e=>
     rw [hte] at e1;simp only [Zaa,injEq,Prod.mk.injEq] at e1;obtain ⟨pp,e2,w,e3,rfl,_⟩:=e1;refine ⟨w,?_,hv⟩;simp only [ZzK,hte,Zap];rw [show T.get c=some pp from e2,Zap,e3]
  obtain ⟨u,e1,r1⟩:=this;exact ⟨u::us,by simp only [Zhq,e1,e2,Zap],.cons r1 r2⟩
end
end Go.Eng
