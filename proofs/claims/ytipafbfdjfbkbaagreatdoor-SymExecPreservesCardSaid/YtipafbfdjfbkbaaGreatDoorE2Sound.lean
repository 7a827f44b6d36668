import Derived.Test.YtipafbfdjfbkbaaGreatDoorE2Ap
set_option linter.unusedVariables false
set_option linter.unusedSectionVars false
open Option.some (injEq)
namespace Go.Eng
section
variable [Gl] [Mx]
theorem ZgI:∀ (ts:List Ty) (ds:List D) (x:Zfj ts),Zrh ts ds=some x->Zc9 ts x=ds
 | [],[],x,_=>rfl
 | [t],[⟨u,y⟩],x,h=>by
  obtain ⟨e,h⟩:=Zal (show Za7 u t y=some x from h);subst e;subst h;rfl
 | t::u::ts,⟨w,y⟩::ds,x,h=>by
  simp only [Zrh,Zaa,injEq] at h;obtain ⟨x1,h1,x2,h2,h⟩:=h;subst h;obtain ⟨e,h1⟩:=Zal h1;subst e;subst h1;simp only [Zc9];rw [ZgI (u::ts) ds x2 h2]
 | [],_::_,_,h=>by cases h
 | [_],[],_,h=>by cases h
 | [_],_::_::_,_,h=>by cases h
 | _::_::_,[],_,h=>by cases h
def Asg (a':Nat->AV) (r:Rn) (av:Nat->AV):Prop:=∀ c,match r.get c with
 | none=>True
 | some (.ck d)=>av c=a' d
 | some .nil=>av c=.nils
 | some (.dl t l)=>DR (.list t) l (av c)
def Zmd (r r':Rn) (av av':Nat->AV):Prop:=∀ c,r.get c≠none->r'.get c=r.get c/\av' c=av c
theorem Zmd.refl (r:Rn) (av:Nat->AV):Zmd r r av av:=fun _ _=>⟨rfl,rfl⟩
theorem Zmd.trans {r1 r2 r3:Rn} {a1 a2 a3:Nat->AV} (h:Zmd r1 r2 a1 a2) (i:Zmd r2 r3 a2 a3):Zmd r1 r3 a1 a3:=by
 intro c hc;obtain ⟨h1,h2⟩:=h c hc;obtain ⟨h3,h4⟩:=i c (by rw [h1];exact hc);exact ⟨by rw [h3,h1],by rw [h4,h2]⟩
theorem Zld {a' av:Nat->AV} {r:Rn} (A:Asg a' r av) {c:Nat} {cr:CR} {v:AV} (hc:r.get c=none) (hv:match cr with | .ck d=>v=a' d | .nil=>v=.nils | .dl t l=>DR (.list t) l v) :
 ∃ av',Asg a' (r.put c cr) av'/\Zmd r (r.put c cr) av av'/\av' c=v/\(r.put c cr).get c=some cr:=by
 refine ⟨fun d=>if d=c then v else av d,?_,?_,by simp,by simp⟩
 ·intro d;rw [Tr.get_put];by_cases e:d=c
  ·subst e;simp only [if_true];cases cr<;>exact hv
  ·simp only [if_neg e];exact A d
 ·intro d hd;have e:d≠c:=fun e=>hd (by rw [e];exact hc);exact ⟨by rw [Tr.get_put,if_neg e],by simp only [if_neg e]⟩
theorem Zme {a' av:Nat->AV} {r r':Rn} (A:Asg a' r av) {c d:Nat} (h:Rn.ck r c d=some r'):∃ av',Asg a' r' av'/\Zmd r r' av av'/\av' c=a' d/\r'.get c=some (.ck d):=by
 unfold Rn.ck at h;split at h
 ·rename_i hc;cases h;exact Zld A hc (v:=a' d) rfl
 ·rename_i e hc;rw [Zak,Zad] at h;obtain ⟨rfl,h⟩:=h;cases h;have:=A c;rw [hc] at this;exact ⟨av,A,.refl _ _,this,hc⟩
 ·cases h
def Zw3 (b:Nat->Nat) (M:Nat) (A:Nat->AV) (sv:SV) (ds:List D) (u:AV):Prop:=∀ rest,(Zh0 b sv (ds++rest)).2=rest/\VR2 M A (Zh0 b sv (ds++rest)).1 u
def Zw4 (b:Nat->Nat) (M:Nat) (A:Nat->AV) (sv:List SV) (ds:List D) (u:List AV):Prop:=∀ rest,(ZbE b sv (ds++rest)).2=rest/\Zbl M A (ZbE b sv (ds++rest)).1 u
def Fin (b:Nat->Nat) (A:Nat->AV) (r:Rn) (av:Nat->AV):Prop:=∀ c,r.get c≠none->A (b c)=av c
theorem Fin.rext {b:Nat->Nat} {A:Nat->AV} {r r':Rn} {av av':Nat->AV} (h:Fin b A r' av') (e:Zmd r r' av av'):Fin b A r av:=by
 intro c hc;obtain ⟨h1,h2⟩:=e c hc;rw [h c (by rw [h1];exact hc),h2]
section
variable {m n:Nat} {a':Nat->AV}
mutual
theorem Zpg:∀ (sv:SV) {v:V2} {u:AV} {r r':Rn} {ds:List D} {av:Nat->AV},ZjQ sv v r=some (ds,r')->sv.lts n=true->VR2 m a' v u->Asg a' r av ->
 ∃ av',Asg a' r' av'/\Zmd r r' av av'/\∀ (b:Nat->Nat) M A,(∀ c,c < n->b c < M)->Fin b A r' av'->Zw3 b M A sv ds u
 | .dat t,v,u,r,r',ds,av,h,_,hv,A=>by
  simp only [ZjQ] at h;split at h
  ·rename_i w x;simp only [Zaa,injEq,Prod.mk.injEq] at h;obtain ⟨y,hy,rfl,rfl⟩:=h;obtain ⟨e,hy⟩:=Zal hy;subst e;subst hy;cases hv with | dat d=>
   exact ⟨av,A,.refl _ _,fun b M A' _ _ rest=>⟨rfl,.dat d⟩⟩
  ·split at h
   ·cases h;cases hv;exact ⟨av,A,.refl _ _,fun b M A' _ _ rest=>⟨rfl,.dat (show NRs _ _ from .cons (.inr ⟨rfl,rfl⟩) .nil)⟩⟩
   ·cases h
  ·split at h
   ·cases h;cases hv;exact ⟨av,A,.refl _ _,fun b M A' _ _ rest=>⟨rfl,.dat (show NRs _ _ from .cons (.inl rfl) .nil)⟩⟩
   ·cases h
  ·split at h
   ·simp only [Zaa,injEq,Prod.mk.injEq] at h;obtain ⟨y,hy,rfl,rfl⟩:=h;cases hv with | agg hl=>
    exact ⟨av,A,.refl _ _,fun b M A' _ _ rest=>⟨rfl,.dat (DR.st.2 ⟨_,rfl,ZcA _ hy hl⟩)⟩⟩
   ·cases h
  ·split at h
   ·simp only [Zaa,injEq,Prod.mk.injEq] at h;obtain ⟨y,hy,rfl,rfl⟩:=h;obtain ⟨e,hy⟩:=Za1 hy;subst e;subst hy;exact ⟨av,A,.refl _ _,fun b M A' _ _ rest=>⟨rfl,.dat hv.nsl_dr⟩⟩
   ·cases h
  ·cases h
 | .nsl t,v,u,r,r',ds,av,h,_,hv,A=>by
  simp only [ZjQ] at h;split at h
  ·cases h;cases hv;exact ⟨av,A,.refl _ _,fun b M A' _ _ rest=>⟨rfl,.nsl (fun _=>⟨rfl,rfl⟩) (fun h=>by cases h)⟩⟩
  ·simp only [Zaa,injEq,Prod.mk.injEq] at h;obtain ⟨y,hy,rfl,rfl⟩:=h;obtain ⟨e,hy⟩:=Za1 hy;subst e;subst hy;obtain ⟨h1,h2⟩:=hv.nsl_inv;exact ⟨av,A,.refl _ _,fun b M A' _ _ rest=>⟨rfl,.nsl h1 h2⟩⟩
  ·cases h
 | .fpe t,v,u,r,r',ds,av,h,_,hv,A=>by
  simp only [ZjQ] at h;split at h
  ·simp only [Zaa,injEq,Prod.mk.injEq] at h;obtain ⟨y,hy,rfl,rfl⟩:=h;obtain ⟨e,hy⟩:=Zal hy;subst e;subst hy;cases hv with | fpe=>
   exact ⟨av,A,.refl _ _,fun b M A' _ _ rest=>⟨rfl,.fpe⟩⟩
  ·simp only [Zaa,injEq,Prod.mk.injEq] at h;obtain ⟨y,hy,rfl,rfl⟩:=h;obtain ⟨e,hy⟩:=Zal hy;subst e;subst hy;cases hv with | dat d=>
   have:=DR.ptr d;subst this;refine ⟨av,A,.refl _ _,fun b M A' _ _ rest=>⟨rfl,?_⟩⟩;have key:∀ (t:Ty) (x:t.den),VR2 M A' (.fpe t x) (.fp (t.cells x)):=by
    intro t x;have:=VR2.fpe (m:=M) (a:=A') (t:=t) (x:=x) (r:=[]);rw [List.append_nil] at this;exact this
   exact key _ _
  ·cases h
 | .nils,v,u,r,r',ds,av,h,_,hv,A=>by
  simp only [ZjQ] at h;split at h
  ·cases h;cases hv;exact ⟨av,A,.refl _ _,fun b M A' _ _ rest=>⟨rfl,.nils⟩⟩
  ·cases h
 | .nilp,v,u,r,r',ds,av,h,_,hv,A=>by
  simp only [ZjQ] at h;split at h
  ·cases h;cases hv;exact ⟨av,A,.refl _ _,fun b M A' _ _ rest=>⟨rfl,.nilp⟩⟩
  ·cases h
 | .nilm,v,u,r,r',ds,av,h,_,hv,A=>by
  simp only [ZjQ] at h;split at h
  ·cases h;cases hv;exact ⟨av,A,.refl _ _,fun b M A' _ _ rest=>⟨rfl,.nilm⟩⟩
  ·cases h
 | .pin,v,u,r,r',ds,av,h,_,hv,A=>by
  cases v<;>simp only [ZjQ] at h<;>try (cases h;done)
  cases h;cases hv with | pin hu=>
  exact ⟨av,A,.refl _ _,fun b M A' _ _ rest=>⟨rfl,.pin hu⟩⟩
 | .nilf,v,u,r,r',ds,av,h,_,hv,A=>by
  simp only [ZjQ] at h;split at h
  ·cases h;cases hv;exact ⟨av,A,.refl _ _,fun b M A' _ _ rest=>⟨rfl,.nilf⟩⟩
  ·cases h
 | .sl c,v,u,r,r',ds,av,h,hlt,hv,A=>by
  have hcn:c < n:=Za6.1 hlt;have fin:∀ {av':Nat->AV},av' c=u->r'.get c≠none->u.one=true->∀ (b:Nat->Nat) M A',(∀ c,c < n->b c < M)->Fin b A' r' av'->Zw3 b M A' (.sl c) [] u:=by
   intro av' h1 h2 h3 b M A' hM hF rest;refine ⟨rfl,?_⟩;have:=VR2.sl (m:=M) (a:=A') (c:=b c) (hM c hcn) (by rw [hF c h2,h1];exact h3);rw [hF c h2,h1] at this;exact this
  simp only [ZjQ] at h;split at h
  ·simp only [Zaa,injEq,Prod.mk.injEq] at h;obtain ⟨r1,h1,rfl,rfl⟩:=h;obtain ⟨av',A1,E1,g1,g2⟩:=Zme A h1;cases hv with | sl hc ho=>
   exact ⟨av',A1,E1,fin g1 (by rw [g2];simp) ho⟩
  ·simp only [Zaa,injEq,Prod.mk.injEq] at h;obtain ⟨r1,h1,rfl,rfl⟩:=h;cases hv;split at h1
   ·rename_i hc;cases h1;obtain ⟨av',A1,E1,g1,g2⟩:=Zld A hc (cr:=.nil) (v:=.nils) rfl;exact ⟨av',A1,E1,fin g1 (by rw [g2];simp) rfl⟩
   ·rename_i hc;cases h1;have:=A c;rw [hc] at this;exact ⟨av,A,.refl _ _,fin this (by rw [hc];simp) rfl⟩
   ·cases h1
  ·rename_i w l;simp only [Zaa,injEq,Prod.mk.injEq] at h;obtain ⟨r1,h1,rfl,rfl⟩:=h;cases hv with | dat d=>
   split at h1
   ·rename_i hc;cases h1;obtain ⟨av',A1,E1,g1,g2⟩:=Zld A hc (cr:=.dl w l) (v:=u) d;refine ⟨av',A1,E1,fin g1 (by rw [g2];simp) ?_⟩;rcases DR.list d with e | ⟨_,e⟩<;>rw [e]<;>rfl
   ·cases h1
  ·cases h
 | .bx c off,v,u,r,r',ds,av,h,hlt,hv,A=>by
  have hcn:c < n:=Za6.1 hlt;simp only [ZjQ] at h;split at h
  ·rw [Zak,Zad] at h;obtain ⟨rfl,h⟩:=h;simp only [Zaa,injEq,Prod.mk.injEq] at h;obtain ⟨r1,h1,rfl,rfl⟩:=h;obtain ⟨av',A1,E1,g1,g2⟩:=Zme A h1;cases hv with | bx hc hb=>
   refine ⟨av',A1,E1,fun b M A' hM hF rest=>⟨rfl,.bx (hM c hcn) ?_⟩⟩;rw [hF c (by rw [g2];simp),g1,hb]
  ·cases h
 | .mp c,v,u,r,r',ds,av,h,hlt,hv,A=>by
  have hcn:c < n:=Za6.1 hlt;simp only [ZjQ] at h;split at h
  ·simp only [Zaa,injEq,Prod.mk.injEq] at h;obtain ⟨r1,h1,rfl,rfl⟩:=h;obtain ⟨av',A1,E1,g1,g2⟩:=Zme A h1;cases hv with | mp hc ho=>
   refine ⟨av',A1,E1,fun b M A' hM hF rest=>⟨rfl,?_⟩⟩;have hA:=hF c (by rw [g2];simp);have:=VR2.mp (m:=M) (a:=A') (c:=b c) (hM c hcn) (by rw [hA,g1];exact ho);rw [hA,g1] at this;exact this
  ·cases h
 | .ar c,v,u,r,r',ds,av,h,hlt,hv,A=>by
  have hcn:c < n:=Za6.1 hlt;simp only [ZjQ] at h;split at h
  ·simp only [Zaa,injEq,Prod.mk.injEq] at h;obtain ⟨r1,h1,rfl,rfl⟩:=h;obtain ⟨av',A1,E1,g1,g2⟩:=Zme A h1;cases hv with | ar hc hb=>
   refine ⟨av',A1,E1,fun b M A' hM hF rest=>⟨rfl,.ar (hM c hcn) ?_⟩⟩;rw [hF c (by rw [g2];simp),g1,hb]
  ·cases h
 | .agg l,v,u,r,r',ds,av,h,hlt,hv,A=>by
  simp only [ZjQ] at h;split at h
  ·cases hv with | agg hl=>
   obtain ⟨av',A1,E1,g⟩:=Ze8 l h hlt hl A;exact ⟨av',A1,E1,fun b M A' hM hF rest=>⟨(g b M A' hM hF rest).1,.agg (g b M A' hM hF rest).2⟩⟩
  ·cases hv with | dat d=>
   obtain ⟨cs,rfl,hn⟩:=DR.st.1 d;obtain ⟨av',A1,E1,g⟩:=Ze8 l h hlt (Zbl.cells2 _ _ _ hn) A;exact ⟨av',A1,E1,fun b M A' hM hF rest=>⟨(g b M A' hM hF rest).1,.agg (g b M A' hM hF rest).2⟩⟩
  ·cases h
 | .tup l,v,u,r,r',ds,av,h,hlt,hv,A=>by
  simp only [ZjQ] at h;split at h
  ·cases hv with | tup hl=>
   obtain ⟨av',A1,E1,g⟩:=Ze8 l h hlt hl A;exact ⟨av',A1,E1,fun b M A' hM hF rest=>⟨(g b M A' hM hF rest).1,.tup (g b M A' hM hF rest).2⟩⟩
  ·cases h
 | .fn f x y,v,u,r,r',ds,av,h,hlt,hv,A=>by
  have hlt2:SV.ltsL n x=true/\SV.ltsL n y=true:=by simpa [SV.lts] using hlt
  simp only [ZjQ] at h;split at h
  ·rw [Zak,Zad] at h;obtain ⟨rfl,h⟩:=h;simp only [Zaa,injEq,Prod.mk.injEq] at h;obtain ⟨⟨d1,r1⟩,h1,⟨d2,r2⟩,h2,rfl,rfl⟩:=h;cases hv with | fn hx hy=>
   obtain ⟨av1,A1,E1,g1⟩:=Ze8 x h1 hlt2.1 hx A;obtain ⟨av2,A2,E2,g2⟩:=Ze8 y h2 hlt2.2 hy A1;refine ⟨av2,A2,E1.trans E2,fun b M A' hM hF rest=>?_⟩;have k1:=g1 b M A' hM (hF.rext E2) (d2++rest);have k2:=g2 b M A' hM hF rest;dsimp only at *;rw [List.append_assoc];simp only [Zh0];rw [k1.1];exact ⟨k2.1,.fn k1.2 k2.2⟩
  ·cases h
theorem Ze8:∀ (sv:List SV) {v:List V2} {u:List AV} {r r':Rn} {ds:List D} {av:Nat->AV},Zq7 sv v r=some (ds,r')->SV.ltsL n sv=true->Zbl m a' v u->Asg a' r av ->
 ∃ av',Asg a' r' av'/\Zmd r r' av av'/\∀ (b:Nat->Nat) M A,(∀ c,c < n->b c < M)->Fin b A r' av'->Zw4 b M A sv ds u
 | [],v,u,r,r',ds,av,h,_,hv,A=>by
  simp only [Zq7] at h;split at h
  ·cases h;cases hv;exact ⟨av,A,.refl _ _,fun b M A' _ _ rest=>⟨rfl,.nil⟩⟩
  ·cases h
 | x::xs,v,u,r,r',ds,av,h,hlt,hv,A=>by
  have hlt2:x.lts n=true/\SV.ltsL n xs=true:=by simpa [SV.ltsL] using hlt
  simp only [Zq7] at h;split at h
  ·simp only [Zaa,injEq,Prod.mk.injEq] at h;obtain ⟨⟨d1,r1⟩,h1,⟨d2,r2⟩,h2,rfl,rfl⟩:=h;cases hv with | cons hx hy=>
   obtain ⟨av1,A1,E1,g1⟩:=Zpg x h1 hlt2.1 hx A;obtain ⟨av2,A2,E2,g2⟩:=Ze8 xs h2 hlt2.2 hy A1;refine ⟨av2,A2,E1.trans E2,fun b M A' hM hF rest=>?_⟩;have k1:=g1 b M A' hM (hF.rext E2) (d2++rest);have k2:=g2 b M A' hM hF rest;dsimp only at *;rw [List.append_assoc];simp only [ZbE];rw [k1.1];exact ⟨k2.1,.cons k1.2 k2.2⟩
  ·cases h
end
theorem Zph {T2:Tr V2} {T:Tm} (hT:∀ k v,T2.get k=some v->∃ u,T.get k=some u/\VR2 m a' v u):∀ (sl:List (Tmp×SV)) {r r':Rn} {ds:List D} {av:Nat->AV},ZzT T2 sl r=some (ds,r')->(sl.all fun p=>p.2.lts n)=true->Asg a' r av ->
 ∃ av',Asg a' r' av'/\Zmd r r' av av'/\∀ (b:Nat->Nat) M A,(∀ c,c < n->b c < M)->Fin b A r' av'->∀ rest T0,(∀ k v,T0.get k=some v->∃ u,T.get k=some u/\VR2 M A v u) ->
  (ZnM b sl (ds++rest) T0).2=rest/\∀ k v,(ZnM b sl (ds++rest) T0).1.get k=some v->∃ u,T.get k=some u/\VR2 M A v u
 | [],r,r',ds,av,h,_,A=>by
  cases h;exact ⟨av,A,.refl _ _,fun b M A' _ _ rest T0 h0=>⟨rfl,h0⟩⟩
 | x::xs,r,r',ds,av,h,hlt,A=>by
  simp only [List.all_cons,Bool.and_eq_true] at hlt;simp only [ZzT,Zaa,injEq,Prod.mk.injEq] at h;obtain ⟨v,hv,⟨d1,r1⟩,h1,⟨d2,r2⟩,h2,rfl,rfl⟩:=h;obtain ⟨u,e1,hu⟩:=hT _ _ hv;obtain ⟨av1,A1,E1,g1⟩:=Zpg x.2 h1 hlt.1 hu A;obtain ⟨av2,A2,E2,g2⟩:=Zph hT xs h2 hlt.2 A1;refine ⟨av2,A2,E1.trans E2,fun b M A' hM hF rest T0 h0=>?_⟩;have k1:=g1 b M A' hM (hF.rext E2) (d2++rest);dsimp only at *;rw [List.append_assoc];simp only [ZnM];rw [k1.1];refine g2 b M A' hM hF rest _ ?_;intro k w hk;rw [Tr.get_put] at hk;split at hk
  ·rename_i e;cases hk;subst e;exact ⟨u,e1,k1.2⟩
  ·exact h0 k w hk
def CkJ (ρ:Nat->Nat->AV) (H':Tr C2) (fp':Nat->Nat->Prop) (hp:Tr AB) (r:Rn) (M:Nat) (A:Nat->AV) (a':Nat->AV) (j:Nat) (v:AV) (w:Bool) (ck:C2):Prop:=ck.w=w/\match r.get j with
 | none=>False
 | some (.ck d)=>∃ ckd,H'.get d=some ckd/\(ck.w=true->ckd.w=true)/\Zcr ρ M A hp (fp' d) (a' d) ck
 | some .nil=>∀ P:Nat->Prop,Zcr ρ M A hp P v ck
 | some (.dl _ _)=>ck.w=false/\∀ P:Nat->Prop,Zcr ρ M A hp P v ck
theorem Zpi {ρ:Nat->Nat->AV} {H':Tr C2} {fp':Nat->Nat->Prop} {hp:Tr AB} (hC:∀ c ck,H'.get c=some ck->Zcr ρ m a' hp (fp' c) (a' c) ck):∀ (xs:List CS) (i:Nat) {r r':Rn} {ds:List D} {av:Nat->AV},ZzU H' xs i r=some (ds,r') ->
 (xs.all fun c=>match c with | .box l _=>SV.ltsL n l | _=>true)=true->Asg a' r av ->
 ∃ av',Asg a' r' av'/\Zmd r r' av av'/\∀ (b:Nat->Nat) M A,(∀ c,c < n->b c < M)->Fin b A r' av'->∀ rest H0,(Ze7 b xs i (ds++rest) H0).2=rest /\
  ∀ c ck,(Ze7 b xs i (ds++rest) H0).1.get c=some ck->H0.get c=some ck\/∃ j x,c=b j/\i<=j/\xs[j - i]?=some x/\CkJ ρ H' fp' hp r' M A a' j (av' j) x.w ck
 | [],i,r,r',ds,av,h,_,A=>by
  cases h;exact ⟨av,A,.refl _ _,fun b M A' _ _ rest H0=>⟨rfl,fun c ck h=>.inl h⟩⟩
 | x::xs,i,r,r',ds,av,h,hlt,A=>by
  simp only [List.all_cons,Bool.and_eq_true] at hlt;simp only [ZzU,Zaa,injEq,Prod.mk.injEq] at h;obtain ⟨cr,hcr,⟨d1,r1⟩,h1,⟨d2,r2⟩,h2,rfl,rfl⟩:=h
  -- the first chunk
  have first:∃ av1,Asg a' r1 av1/\Zmd r r1 av av1/\∀ (b:Nat->Nat) M A',(∀ c,c < n->b c < M)->Fin b A' r1 av1->∀ rest H0,∃ ck,Ze7 b (x::xs) i (d1++rest) H0=Ze7 b xs (i+1) rest (H0.put (b i) ck)/\CkJ ρ H' fp' hp r1 M A' a' i (av1 i) x.w ck:=by
   have hne:r.get i≠none:=by rw [hcr];simp
   cases x with
   | own t w=>
    dsimp only at h1;split at h1
    ·rename_i d;simp only [Zaa] at h1;obtain ⟨ck,hg,h1⟩:=h1;split at h1
     ·rename_i u l w';rw [Zak] at h1;simp only [Zaa,injEq,Prod.mk.injEq] at h1;obtain ⟨hw,y,hy,rfl,rfl⟩:=h1;obtain ⟨e,hy⟩:=Za1 hy;subst e;subst hy;refine ⟨av,A,.refl _ _,fun b M A' hM hF rest H0=>⟨.own u l w,rfl,rfl,?_⟩⟩;rw [hcr];have hck:=hC d _ hg;have hw':w=true->w'=true:=by intro e;rw [e] at hw;simpa using hw
      refine ⟨_,hg,hw',?_⟩;cases w
      ·have:=Zcr.ro hck;refine ⟨this.1,?_⟩;exact this.2
      ·rw [hw' rfl] at hck;exact ⟨hck.1,hck.2⟩
     ·cases h1
    ·cases h1;refine ⟨av,A,.refl _ _,fun b M A' hM hF rest H0=>⟨.own t [] w,rfl,rfl,?_⟩⟩;rw [hcr];have:=A i;rw [hcr] at this;have this:av i=.nils:=this;intro P;rw [this];exact ⟨rfl,.inl ⟨rfl,rfl⟩⟩
    ·rename_i u l;rw [Zi8] at h1;simp only [Zaa,injEq,Prod.mk.injEq] at h1;obtain ⟨hw,y,hy,rfl,rfl⟩:=h1;obtain ⟨e,hy⟩:=Za1 hy;subst e;subst hy;refine ⟨av,A,.refl _ _,fun b M A' hM hF rest H0=>⟨.own u l w,rfl,rfl,?_⟩⟩;rw [hcr];have:=A i;rw [hcr] at this;have this:DR (.list u) l (av i):=this;refine ⟨hw,fun P=>?_⟩;rcases DR.list this with e | ⟨hl,e⟩
     ·rw [e];exact ⟨rfl,.inr (.inl ⟨hw,rfl⟩)⟩
     ·rw [e];exact ⟨rfl,.inl ⟨hl,rfl⟩⟩
   | box l w=>
    dsimp only at h1 hlt;split at h1
    ·rename_i d;simp only [Zaa] at h1;obtain ⟨ck,hg,h1⟩:=h1;split at h1
     ·rename_i l' w';rw [Zak] at h1;obtain ⟨hw,h1⟩:=h1;obtain ⟨q,cs,g1,g2,g3,g4,g5⟩:=hC d _ hg;obtain ⟨av1,A1,E1,k⟩:=Ze8 l h1 hlt.1 g4 A;refine ⟨av1,A1,E1,fun b M A' hM hF rest H0=>?_⟩;have k1:=k b M A' hM hF rest;refine ⟨.box (ZbE b l (d1++rest)).1 w,?_,rfl,?_⟩
      ·simp only [Ze7];rw [k1.1]
      ·obtain ⟨e1,_⟩:=E1 i hne;rw [e1,hcr];have hw':w=true->w'=true:=by intro e;rw [e] at hw;simpa using hw
       refine ⟨_,hg,hw',q,cs,g1,g2,?_,k1.2,fun o ho=>g5 o (ZHj l h1 o (ZGT l _ o ho))⟩;cases w
       ·exact g3.rd
       ·rw [hw' rfl] at g3;exact g3
     ·cases h1
    ·cases h1
   | map kk vv=>
    dsimp only at h1;split at h1
    ·rename_i d;simp only [Zaa] at h1;obtain ⟨ck,hg,h1⟩:=h1;split at h1
     ·rename_i k' v' es;simp only [Zaa,injEq,Prod.mk.injEq] at h1;obtain ⟨y,hy,rfl,rfl⟩:=h1;obtain ⟨e,hy⟩:=Za1 hy;cases e;subst hy;refine ⟨av,A,.refl _ _,fun b M A' hM hF rest H0=>⟨.map _ _ es,rfl,rfl,?_⟩⟩;rw [hcr];exact ⟨_,hg,fun _=>rfl,hC d _ hg⟩
     ·cases h1
    ·cases h1
   | own2 tt=>
    dsimp only at h1;split at h1
    ·rename_i d;simp only [Zaa] at h1;obtain ⟨ck,hg,h1⟩:=h1;split at h1
     ·rename_i t' l hh;rw [Zak] at h1;obtain ⟨hn,h1⟩:=h1;simp only [Zaa,injEq,Prod.mk.injEq] at h1;obtain ⟨y,hy,rfl,rfl⟩:=h1;obtain ⟨e,hy⟩:=Za1 hy;cases e;subst hy;have hn:hh=none:=by simpa using hn
      subst hn;refine ⟨av,A,.refl _ _,fun b M A' hM hF rest H0=>⟨.own2 _ l none,rfl,rfl,?_⟩⟩;rw [hcr];exact ⟨_,hg,fun _=>rfl,ZgC.free (hC d _ hg)⟩
     ·cases h1
    ·cases h1
   | arr tt=>
    dsimp only at h1;split at h1
    ·rename_i d;simp only [Zaa] at h1;obtain ⟨ck,hg,h1⟩:=h1;split at h1
     ·rename_i t' l;simp only [Zaa,injEq,Prod.mk.injEq] at h1;obtain ⟨y,hy,rfl,rfl⟩:=h1;obtain ⟨e,hy⟩:=Za1 hy;cases e;subst hy;refine ⟨av,A,.refl _ _,fun b M A' hM hF rest H0=>⟨.arr _ l,rfl,rfl,?_⟩⟩;rw [hcr];exact ⟨_,hg,fun _=>rfl,hC d _ hg⟩
     ·cases h1
    ·cases h1
  obtain ⟨av1,A1,E1,k1⟩:=first
  obtain ⟨av2,A2,E2,k2⟩:=Zpi hC xs (i+1) h2 hlt.2 A1;refine ⟨av2,A2,E1.trans E2,fun b M A' hM hF rest H0=>?_⟩;obtain ⟨ck,e1,c1⟩:=k1 b M A' hM (hF.rext E2) (d2++rest) H0;dsimp only at *;rw [List.append_assoc,e1];obtain ⟨q1,q2⟩:=k2 b M A' hM hF rest (H0.put (b i) ck);refine ⟨q1,fun c ck' hc=>?_⟩;rcases q2 c ck' hc with h | ⟨j,y,rfl,hij,hx,hj⟩
  ·rw [Tr.get_put] at h;split at h
   ·rename_i e;cases h;subst e;refine .inr ⟨i,x,rfl,Nat.le_refl _,by simp,?_⟩;have hne:r1.get i≠none:=by
     have:=E1 i (by rw [hcr];simp);rw [this.1,hcr];simp
    obtain ⟨e2,e3⟩:=E2 i hne;unfold CkJ at c1 |-
    rw [e2,e3];exact c1
   ·exact .inl h
  ·refine .inr ⟨j,y,rfl,by omega,?_,hj⟩;have:j - i=(j - (i+1))+1:=by omega
   rw [this];simpa using hx
theorem Ze9 {r:Rn}:∀ {xs:List CS} {i:Nat} {acc:List (Nat×Bool)},ZeL r xs i acc=true ->
 (∀ j x d,i<=j->xs[j - i]?=some x->r.get j=some (.ck d)->∀ p∈acc,p.1=d->p.2=false/\x.w=false) /\
 (∀ j j' x x' d,i<=j->j < j'->xs[j - i]?=some x->xs[j' - i]?=some x'->r.get j=some (.ck d)->r.get j'=some (.ck d)->x.w=false/\x'.w=false)
 | [],i,acc,_=>⟨fun j x d _ h=>by simp at h,fun j j' x x' d _ _ h=>by simp at h⟩
 | x::xs,i,acc,h=>by
  unfold ZeL at h;split at h
  ·rename_i d hd;rw [Bool.and_eq_true] at h;obtain ⟨h1,h2⟩:=h;obtain ⟨g1,g2⟩:=Ze9 h2;have one:∀ p∈acc,p.1=d->p.2=false/\x.w=false:=by
    intro p hp e;have:=List.all_eq_true.1 h1 p hp;rw [Zad.2 e] at this;simpa using this
   refine ⟨?_,?_⟩
   ·intro j y d' hij hy hr p hp e;rcases Nat.lt_or_ge i j with hlt | hge
    ·refine g1 j y d' hlt ?_ hr p (List.mem_cons_of_mem _ hp) e;have:j - i=(j - (i+1))+1:=by omega
     rw [this] at hy;simpa using hy
    ·have:j=i:=by omega
     subst this;rw [hd] at hr;cases hr;simp at hy;subst hy;exact one p hp e
   ·intro j j' y y' d' hij hjj hy hy' hr hr';have ey':xs[j' - (i+1)]?=some y':=by
     have:j' - i=(j' - (i+1))+1:=by omega
     rw [this] at hy';simpa using hy'
    rcases Nat.lt_or_ge i j with hlt | hge
    ·refine g2 j j' y y' d' hlt hjj ?_ ey' hr hr';have:j - i=(j - (i+1))+1:=by omega
     rw [this] at hy;simpa using hy
    ·have:j=i:=by omega
     subst this;rw [hd] at hr;cases hr;simp at hy;subst hy;exact g1 j' y' d (by omega) ey' hr' (d,x.w) (by simp) rfl
  ·rename_i hd;obtain ⟨g1,g2⟩:=Ze9 h;refine ⟨?_,?_⟩
   ·intro j y d' hij hy hr p hp e;rcases Nat.lt_or_ge i j with hlt | hge
    ·refine g1 j y d' hlt ?_ hr p hp e;have:j - i=(j - (i+1))+1:=by omega
     rw [this] at hy;simpa using hy
    ·have:j=i:=by omega
     subst this;exact absurd hr (hd _)
   ·intro j j' y y' d' hij hjj hy hy' hr hr';rcases Nat.lt_or_ge i j with hlt | hge
    ·refine g2 j j' y y' d' hlt hjj ?_ ?_ hr hr'
     ·have:j - i=(j - (i+1))+1:=by omega
      rw [this] at hy;simpa using hy
     ·have:j' - i=(j' - (i+1))+1:=by omega
      rw [this] at hy';simpa using hy'
    ·have:j=i:=by omega
     subst this;exact absurd hr (hd _)
end
end
end Go.Eng
