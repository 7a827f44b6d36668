import Derived.Test.YtipafbfdjfbkbaaGreatDoorE2Emb
set_option linter.unusedVariables false
set_option linter.unusedSectionVars false
open Option.some (injEq)
open Bool (and_eq_true)
open List (getElem?_cons_zero all_cons)
open Nat (lt_or_ge zero_add)
namespace Go.Eng
section
variable [Gl] [Mx] {P:Program} {K:ZcY} {E:Zcn} {F:Fr} {a:Nat->AV} {fp:Nat->Nat->Prop} {s s0:S2} {T:Tm} {S S':St} {α:Type} {k:K2 α} {r:α}
section
variable {n M M':Nat} {A A':Nat->AV} {b b':Nat->Nat}
mutual
theorem Z2w:∀ (sv:SV) (ds:List D),sv.lts n=true->(∀ c,c < n->b' c < M'/\A' (b' c)=A (b c))->(Zh0 b sv ds).2=(Zh0 b' sv ds).2/\∀ u,VR2 M A (Zh0 b sv ds).1 u->VR2 M' A' (Zh0 b' sv ds).1 u
 | .dat t,ds,_,_=>by
  cases ds with
  | nil=>exact ⟨rfl,fun u h=>by cases h;exact .nilp⟩
  | cons d ds=>exact ⟨rfl,fun u h=>by cases h with | dat h=>exact .dat h⟩
 | .fpe t,ds,_,_=>by
  cases ds with
  | nil=>exact ⟨rfl,fun u h=>by cases h;exact .nilp⟩
  | cons d ds=>exact ⟨rfl,fun u h=>by cases h;exact .fpe⟩
 | .nsl t,ds,_,_=>by
  simp only [Zh0];split
  ·exact ⟨trivial,fun u h=>by cases h with | nsl h i=>exact .nsl h i⟩
  ·exact ⟨trivial,fun u h=>by cases h;exact .nilp⟩
 | .nils,ds,_,_=>⟨rfl,fun u h=>by cases h;exact .nils⟩
 | .nilp,ds,_,_=>⟨rfl,fun u h=>by cases h;exact .nilp⟩
 | .nilm,ds,_,_=>⟨rfl,fun u h=>by cases h;exact .nilm⟩
 | .nilf,ds,_,_=>⟨rfl,fun u h=>by cases h;exact .nilf⟩
 | .pin,ds,_,_=>⟨rfl,fun u h=>by cases h with | pin hu=>exact .pin hu⟩
 | .sl c,ds,hl,hb=>⟨rfl,fun u h=>by
  obtain ⟨h1,h2⟩:=hb c (Za6.1 hl);cases h with | sl hc ho=>
  rw [<-h2] at ho |-
  exact .sl h1 ho⟩
 | .bx c o,ds,hl,hb=>⟨rfl,fun u h=>by
  obtain ⟨h1,h2⟩:=hb c (Za6.1 hl);cases h with | bx hc ho=>exact .bx h1 (by rw [h2];exact ho)⟩
 | .mp c,ds,hl,hb=>⟨rfl,fun u h=>by
  obtain ⟨h1,h2⟩:=hb c (Za6.1 hl);cases h with | mp hc ho=>
  rw [<-h2] at ho |-
  exact .mp h1 ho⟩
 | .ar c,ds,hl,hb=>⟨rfl,fun u h=>by
  obtain ⟨h1,h2⟩:=hb c (Za6.1 hl);cases h with | ar hc ho=>exact .ar h1 (by rw [h2];exact ho)⟩
 | .agg l,ds,hl,hb=>by
  obtain ⟨h1,h2⟩:=ZsL l ds hl hb;exact ⟨h1,fun u h=>by cases h with | agg h=>exact .agg (h2 _ h)⟩
 | .tup l,ds,hl,hb=>by
  obtain ⟨h1,h2⟩:=ZsL l ds hl hb;exact ⟨h1,fun u h=>by cases h with | tup h=>exact .tup (h2 _ h)⟩
 | .fn f x y,ds,hl,hb=>by
  have hl2:SV.ltsL n x=true/\SV.ltsL n y=true:=by simpa [SV.lts] using hl
  obtain ⟨h1,h2⟩:=ZsL x ds hl2.1 hb;obtain ⟨h3,h4⟩:=ZsL y (ZbE b x ds).2 hl2.2 hb;refine ⟨?_,fun u h=>?_⟩
  ·simp only [Zh0];rw [<-h1];exact h3
  ·simp only [Zh0] at h |-
   cases h with | fn hx hy=>
   refine .fn (h2 _ hx) ?_;rw [<-h1];exact h4 _ hy
theorem ZsL:∀ (sv:List SV) (ds:List D),SV.ltsL n sv=true->(∀ c,c < n->b' c < M'/\A' (b' c)=A (b c))->(ZbE b sv ds).2=(ZbE b' sv ds).2/\∀ u,Zbl M A (ZbE b sv ds).1 u->Zbl M' A' (ZbE b' sv ds).1 u
 | [],ds,_,_=>⟨rfl,fun u h=>by cases h;exact .nil⟩
 | x::xs,ds,hl,hb=>by
  have hl2:x.lts n=true/\SV.ltsL n xs=true:=by simpa [SV.ltsL] using hl
  obtain ⟨h1,h2⟩:=Z2w x ds hl2.1 hb;obtain ⟨h3,h4⟩:=ZsL xs (Zh0 b x ds).2 hl2.2 hb;refine ⟨?_,fun u h=>?_⟩
  ·simp only [ZbE];rw [<-h1];exact h3
  ·simp only [ZbE] at h |-
   cases h with | cons hx hy=>
   refine .cons (h2 _ hx) ?_;rw [<-h1];exact h4 _ hy
end
end
section
variable {n M M':Nat} {A A':Nat->AV}
def Za0 (b:Nat->Nat):List CS->List D->List C2
 | [],_=>[]
 | x::xs,ds=>match x with
  | .own t w=>match ds with
   | ⟨.list u,l⟩::ds=>.own u l w::Za0 b xs ds
   | _=>[]
  | .box l w=>let p:=ZbE b l ds;.box p.1 w::Za0 b xs p.2
  | .map k v=>match ds with
   | ⟨.list (.prod k' v'),m⟩::ds=>.map k' v' m::Za0 b xs ds
   | _=>[]
  | .own2 t=>match ds with
   | ⟨.list (.list t'),l⟩::ds=>.own2 t' l none::Za0 b xs ds
   | _=>[]
  | .arr t=>match ds with
   | ⟨.list u,l⟩::ds=>.arr u l::Za0 b xs ds
   | _=>[]
theorem ZiH {b:Nat->Nat}:∀ (xs:List CS) (i:Nat) (ds:List D) (H:Tr C2) (m:Nat),i+xs.length<=m->(∀ c d,c < m->d < m->b c=b d->c=d) ->
 (∀ c ck,(Ze7 b xs i ds H).1.get c=some ck->H.get c=some ck\/∃ j,c=b (i+j)/\(Za0 b xs ds)[j]?=some ck) /\
 (∀ j ck,(Za0 b xs ds)[j]?=some ck->(Ze7 b xs i ds H).1.get (b (i+j))=some ck)/\(∀ c,(∀ j,j < xs.length->c≠b (i+j))->(Ze7 b xs i ds H).1.get c=H.get c)
 | [],i,ds,H,m,_,_=>⟨fun c ck h=>.inl h,fun j ck h=>by simp [Za0] at h,fun c _=>rfl⟩
 | x::xs,i,ds,H,m,hm,hb=>by
  have step:∀ (ck0:C2) (ds':List D),Ze7 b (x::xs) i ds H=Ze7 b xs (i+1) ds' (H.put (b i) ck0)->Za0 b (x::xs) ds=ck0::Za0 b xs ds' ->
   (∀ c ck,(Ze7 b (x::xs) i ds H).1.get c=some ck->H.get c=some ck\/∃ j,c=b (i+j)/\(Za0 b (x::xs) ds)[j]?=some ck) /\
   (∀ j ck,(Za0 b (x::xs) ds)[j]?=some ck->(Ze7 b (x::xs) i ds H).1.get (b (i+j))=some ck)/\(∀ c,(∀ j,j < (x::xs).length->c≠b (i+j))->(Ze7 b (x::xs) i ds H).1.get c=H.get c):=by
   intro ck0 ds' e1 e2;rw [e1,e2];obtain ⟨h1,h2,h3⟩:=ZiH xs (i+1) ds' (H.put (b i) ck0) m (by simp at hm;omega) hb;refine ⟨?_,?_,?_⟩
   ·intro c ck h;rcases h1 c ck h with h | ⟨j,rfl,hj⟩
    ·rw [Tr.get_put] at h;split at h
     ·rename_i e;cases h;exact .inr ⟨0,by rw [e];rfl,rfl⟩
     ·exact .inl h
    ·exact .inr ⟨j+1,by congr 1;omega,by simpa using hj⟩
   ·intro j ck h;cases j with
    | zero=>
     simp only [getElem?_cons_zero,injEq] at h;subst h;show (Ze7 b xs (i+1) ds' (H.put (b i) ck0)).1.get (b i)=_;rw [h3 (b i)]
     ·rw [Tr.get_put,if_pos rfl]
     ·intro j hj e;have:=hb i (i+1+j) (by simp at hm;omega) (by simp at hm;omega) e;omega
    | succ j=>
     have:=h2 j ck (by simpa using h);rw [show i+(j+1)=i+1+j from by omega];exact this
   ·intro c hc;rw [h3 c (fun j hj=>by have:=hc (j+1) (by simp;omega);rwa [show i+(j+1)=i+1+j from by omega] at this)];rw [Tr.get_put,if_neg (by have:=hc 0 (by simp);simpa using this)]
  have stop:Ze7 b (x::xs) i ds H=(H,ds)->Za0 b (x::xs) ds=[] ->
   (∀ c ck,(Ze7 b (x::xs) i ds H).1.get c=some ck->H.get c=some ck\/∃ j,c=b (i+j)/\(Za0 b (x::xs) ds)[j]?=some ck) /\
   (∀ j ck,(Za0 b (x::xs) ds)[j]?=some ck->(Ze7 b (x::xs) i ds H).1.get (b (i+j))=some ck)/\(∀ c,(∀ j,j < (x::xs).length->c≠b (i+j))->(Ze7 b (x::xs) i ds H).1.get c=H.get c):=by
   intro e1 e2;rw [e1,e2];exact ⟨fun c ck h=>.inl h,fun j ck h=>by simp at h,fun c _=>rfl⟩
  cases x with
  | own t w=>
   match ds with
   | ⟨.list u,l⟩::ds=>exact step _ ds rfl rfl
   | []=>exact stop rfl rfl
   | ⟨.int _,_⟩::_=>exact stop rfl rfl
   | ⟨.bool,_⟩::_=>exact stop rfl rfl
   | ⟨.str,_⟩::_=>exact stop rfl rfl
   | ⟨.tree _,_⟩::_=>exact stop rfl rfl
   | ⟨.prod _ _,_⟩::_=>exact stop rfl rfl
   | ⟨.st _,_⟩::_=>exact stop rfl rfl
   | ⟨.ptr _,_⟩::_=>exact stop rfl rfl
   | ⟨.optr _,_⟩::_=>exact stop rfl rfl
   | ⟨.opq _,x⟩::_=>exact nomatch x
  | arr t=>
   match ds with
   | ⟨.list u,l⟩::ds=>exact step _ ds rfl rfl
   | []=>exact stop rfl rfl
   | ⟨.int _,_⟩::_=>exact stop rfl rfl
   | ⟨.bool,_⟩::_=>exact stop rfl rfl
   | ⟨.str,_⟩::_=>exact stop rfl rfl
   | ⟨.tree _,_⟩::_=>exact stop rfl rfl
   | ⟨.prod _ _,_⟩::_=>exact stop rfl rfl
   | ⟨.st _,_⟩::_=>exact stop rfl rfl
   | ⟨.ptr _,_⟩::_=>exact stop rfl rfl
   | ⟨.optr _,_⟩::_=>exact stop rfl rfl
   | ⟨.opq _,x⟩::_=>exact nomatch x
  | box l w=>exact step _ (ZbE b l ds).2 rfl rfl
  | map kk vv=>
   match ds with
   | ⟨.list (.prod k' v'),l⟩::ds=>exact step _ ds rfl rfl
   | []=>exact stop rfl rfl
   | ⟨.list (.int _),_⟩::_=>exact stop rfl rfl
   | ⟨.list .bool,_⟩::_=>exact stop rfl rfl
   | ⟨.list .str,_⟩::_=>exact stop rfl rfl
   | ⟨.list (.tree _),_⟩::_=>exact stop rfl rfl
   | ⟨.list (.list _),_⟩::_=>exact stop rfl rfl
   | ⟨.list (.st _),_⟩::_=>exact stop rfl rfl
   | ⟨.list (.ptr _),_⟩::_=>exact stop rfl rfl
   | ⟨.list (.optr _),_⟩::_=>exact stop rfl rfl
   | ⟨.list (.opq _),_⟩::_=>exact stop rfl rfl
   | ⟨.int _,_⟩::_=>exact stop rfl rfl
   | ⟨.bool,_⟩::_=>exact stop rfl rfl
   | ⟨.str,_⟩::_=>exact stop rfl rfl
   | ⟨.tree _,_⟩::_=>exact stop rfl rfl
   | ⟨.prod _ _,_⟩::_=>exact stop rfl rfl
   | ⟨.st _,_⟩::_=>exact stop rfl rfl
   | ⟨.ptr _,_⟩::_=>exact stop rfl rfl
   | ⟨.optr _,_⟩::_=>exact stop rfl rfl
   | ⟨.opq _,x⟩::_=>exact nomatch x
  | own2 tt=>
   match ds with
   | ⟨.list (.list t'),l⟩::ds=>exact step _ ds rfl rfl
   | []=>exact stop rfl rfl
   | ⟨.list (.int _),_⟩::_=>exact stop rfl rfl
   | ⟨.list .bool,_⟩::_=>exact stop rfl rfl
   | ⟨.list .str,_⟩::_=>exact stop rfl rfl
   | ⟨.list (.tree _),_⟩::_=>exact stop rfl rfl
   | ⟨.list (.prod _ _),_⟩::_=>exact stop rfl rfl
   | ⟨.list (.st _),_⟩::_=>exact stop rfl rfl
   | ⟨.list (.ptr _),_⟩::_=>exact stop rfl rfl
   | ⟨.list (.optr _),_⟩::_=>exact stop rfl rfl
   | ⟨.list (.opq _),_⟩::_=>exact stop rfl rfl
   | ⟨.int _,_⟩::_=>exact stop rfl rfl
   | ⟨.bool,_⟩::_=>exact stop rfl rfl
   | ⟨.str,_⟩::_=>exact stop rfl rfl
   | ⟨.tree _,_⟩::_=>exact stop rfl rfl
   | ⟨.prod _ _,_⟩::_=>exact stop rfl rfl
   | ⟨.st _,_⟩::_=>exact stop rfl rfl
   | ⟨.ptr _,_⟩::_=>exact stop rfl rfl
   | ⟨.optr _,_⟩::_=>exact stop rfl rfl
   | ⟨.opq _,x⟩::_=>exact nomatch x
theorem ZvV {ρ:Nat->Nat->AV} {b b':Nat->Nat}:∀ (xs:List CS) (ds:List D),(xs.all fun c=>match c with | .box l _=>SV.ltsL n l | _=>true)=true->(∀ c,c < n->b' c < M'/\A' (b' c)=A (b c)) ->
 ∀ (j:Nat) (ck:C2),(Za0 b' xs ds)[j]?=some ck->∃ ck0:C2,(Za0 b xs ds)[j]?=some ck0/\ck.w=ck0.w/\∀ (h:Tr AB) (Pn:Nat->Prop) (v:AV),Zcr ρ M A h Pn v ck0->Zcr ρ M' A' h Pn v ck
 | [],ds,_,_,j,ck,h=>by simp [Za0] at h
 | x::xs,ds,hl,hb,j,ck,h=>by
  simp only [all_cons,and_eq_true] at hl;cases x with
  | own t w=>
   have hh:∀ u l ds',Za0 b' (.own t w::xs) ds=.own u l w::Za0 b' xs ds'->Za0 b (.own t w::xs) ds=.own u l w::Za0 b xs ds'->∃ ck0,(Za0 b (.own t w::xs) ds)[j]?=some ck0/\ck.w=ck0.w/\∀ (h:Tr AB) (Pn:Nat->Prop) (v:AV),Zcr ρ M A h Pn v ck0->Zcr ρ M' A' h Pn v ck:=by
    intro u l ds' e1 e2;rw [e1] at h;rw [e2];cases j with
    | zero=>
     simp only [getElem?_cons_zero,injEq] at h;subst h;exact ⟨_,rfl,rfl,fun h Pn v hk=>hk⟩
    | succ j=>simpa using ZvV xs ds' hl.2 hb j ck (by simpa using h)
   match ds,h,hh with
   | ⟨.list u,l⟩::ds,h,hh=>exact hh u l ds rfl rfl
   | [],h,_=>simp [Za0] at h
   | ⟨.int _,_⟩::_,h,_=>simp [Za0] at h
   | ⟨.bool,_⟩::_,h,_=>simp [Za0] at h
   | ⟨.str,_⟩::_,h,_=>simp [Za0] at h
   | ⟨.tree _,_⟩::_,h,_=>simp [Za0] at h
   | ⟨.prod _ _,_⟩::_,h,_=>simp [Za0] at h
   | ⟨.st _,_⟩::_,h,_=>simp [Za0] at h
   | ⟨.ptr _,_⟩::_,h,_=>simp [Za0] at h
   | ⟨.optr _,_⟩::_,h,_=>simp [Za0] at h
   | ⟨.opq _,x⟩::_,h,_=>exact nomatch x
  | arr t=>
   have hh:∀ u l ds',Za0 b' (.arr t::xs) ds=.arr u l::Za0 b' xs ds'->Za0 b (.arr t::xs) ds=.arr u l::Za0 b xs ds'->∃ ck0,(Za0 b (.arr t::xs) ds)[j]?=some ck0/\ck.w=ck0.w/\∀ (h:Tr AB) (Pn:Nat->Prop) (v:AV),Zcr ρ M A h Pn v ck0->Zcr ρ M' A' h Pn v ck:=by
    intro u l ds' e1 e2;rw [e1] at h;rw [e2];cases j with
    | zero=>
     simp only [getElem?_cons_zero,injEq] at h;subst h;exact ⟨_,rfl,rfl,fun h Pn v hk=>hk⟩
    | succ j=>simpa using ZvV xs ds' hl.2 hb j ck (by simpa using h)
   match ds,h,hh with
   | ⟨.list u,l⟩::ds,h,hh=>exact hh u l ds rfl rfl
   | [],h,_=>simp [Za0] at h
   | ⟨.int _,_⟩::_,h,_=>simp [Za0] at h
   | ⟨.bool,_⟩::_,h,_=>simp [Za0] at h
   | ⟨.str,_⟩::_,h,_=>simp [Za0] at h
   | ⟨.tree _,_⟩::_,h,_=>simp [Za0] at h
   | ⟨.prod _ _,_⟩::_,h,_=>simp [Za0] at h
   | ⟨.st _,_⟩::_,h,_=>simp [Za0] at h
   | ⟨.ptr _,_⟩::_,h,_=>simp [Za0] at h
   | ⟨.optr _,_⟩::_,h,_=>simp [Za0] at h
   | ⟨.opq _,x⟩::_,h,_=>exact nomatch x
  | box l w=>
   obtain ⟨e1,e2⟩:=ZsL (A:=A) (A':=A') (M:=M) (M':=M') (b:=b) (b':=b') l ds hl.1 hb;have h':(C2.box (ZbE b' l ds).1 w::Za0 b' xs (ZbE b' l ds).2)[j]?=some ck:=h;show ∃ ck0,(C2.box (ZbE b l ds).1 w::Za0 b xs (ZbE b l ds).2)[j]?=some ck0/\_;cases j with
   | zero=>
    simp only [getElem?_cons_zero,injEq] at h';subst h';refine ⟨_,rfl,rfl,?_⟩;rintro h Pn v ⟨q,cs,g1,g2,g3,g4,g5⟩;exact ⟨q,cs,g1,g2,g3,e2 _ g4,fun o ho=>g5 o (ZHb l ds o (ZGT l ds o ho))⟩
   | succ j=>
    rw [e1];simpa using ZvV xs _ hl.2 hb j ck (by simpa using h')
  | map kk vv=>
   have hh:∀ k' v' m ds',Za0 b' (.map kk vv::xs) ds=.map k' v' m::Za0 b' xs ds'->Za0 b (.map kk vv::xs) ds=.map k' v' m::Za0 b xs ds'->∃ ck0,(Za0 b (.map kk vv::xs) ds)[j]?=some ck0/\ck.w=ck0.w/\∀ (h:Tr AB) (Pn:Nat->Prop) (v:AV),Zcr ρ M A h Pn v ck0->Zcr ρ M' A' h Pn v ck:=by
    intro k' v' m ds' e1 e2;rw [e1] at h;rw [e2];cases j with
    | zero=>
     simp only [getElem?_cons_zero,injEq] at h;subst h;exact ⟨_,rfl,rfl,fun h Pn v hk=>hk⟩
    | succ j=>simpa using ZvV xs ds' hl.2 hb j ck (by simpa using h)
   match ds,h,hh with
   | ⟨.list (.prod k' v'),l⟩::ds,h,hh=>exact hh k' v' l ds rfl rfl
   | [],h,_=>simp [Za0] at h
   | ⟨.list (.int _),_⟩::_,h,_=>simp [Za0] at h
   | ⟨.list .bool,_⟩::_,h,_=>simp [Za0] at h
   | ⟨.list .str,_⟩::_,h,_=>simp [Za0] at h
   | ⟨.list (.tree _),_⟩::_,h,_=>simp [Za0] at h
   | ⟨.list (.list _),_⟩::_,h,_=>simp [Za0] at h
   | ⟨.list (.st _),_⟩::_,h,_=>simp [Za0] at h
   | ⟨.list (.ptr _),_⟩::_,h,_=>simp [Za0] at h
   | ⟨.list (.optr _),_⟩::_,h,_=>simp [Za0] at h
   | ⟨.list (.opq _),_⟩::_,h,_=>simp [Za0] at h
   | ⟨.int _,_⟩::_,h,_=>simp [Za0] at h
   | ⟨.bool,_⟩::_,h,_=>simp [Za0] at h
   | ⟨.str,_⟩::_,h,_=>simp [Za0] at h
   | ⟨.tree _,_⟩::_,h,_=>simp [Za0] at h
   | ⟨.prod _ _,_⟩::_,h,_=>simp [Za0] at h
   | ⟨.st _,_⟩::_,h,_=>simp [Za0] at h
   | ⟨.ptr _,_⟩::_,h,_=>simp [Za0] at h
   | ⟨.optr _,_⟩::_,h,_=>simp [Za0] at h
   | ⟨.opq _,x⟩::_,h,_=>exact nomatch x
  | own2 tt=>
   have hh:∀ t' l ds',Za0 b' (.own2 tt::xs) ds=.own2 t' l none::Za0 b' xs ds'->Za0 b (.own2 tt::xs) ds=.own2 t' l none::Za0 b xs ds'->∃ ck0,(Za0 b (.own2 tt::xs) ds)[j]?=some ck0/\ck.w=ck0.w/\∀ (h:Tr AB) (Pn:Nat->Prop) (v:AV),Zcr ρ M A h Pn v ck0->Zcr ρ M' A' h Pn v ck:=by
    intro t' l ds' e1 e2;rw [e1] at h;rw [e2];cases j with
    | zero=>
     simp only [getElem?_cons_zero,injEq] at h;subst h;exact ⟨_,rfl,rfl,fun h Pn v hk=>ZgC.free hk⟩
    | succ j=>simpa using ZvV xs ds' hl.2 hb j ck (by simpa using h)
   match ds,h,hh with
   | ⟨.list (.list t'),l⟩::ds,h,hh=>exact hh t' l ds rfl rfl
   | [],h,_=>simp [Za0] at h
   | ⟨.list (.int _),_⟩::_,h,_=>simp [Za0] at h
   | ⟨.list .bool,_⟩::_,h,_=>simp [Za0] at h
   | ⟨.list .str,_⟩::_,h,_=>simp [Za0] at h
   | ⟨.list (.tree _),_⟩::_,h,_=>simp [Za0] at h
   | ⟨.list (.prod _ _),_⟩::_,h,_=>simp [Za0] at h
   | ⟨.list (.st _),_⟩::_,h,_=>simp [Za0] at h
   | ⟨.list (.ptr _),_⟩::_,h,_=>simp [Za0] at h
   | ⟨.list (.optr _),_⟩::_,h,_=>simp [Za0] at h
   | ⟨.list (.opq _),_⟩::_,h,_=>simp [Za0] at h
   | ⟨.int _,_⟩::_,h,_=>simp [Za0] at h
   | ⟨.bool,_⟩::_,h,_=>simp [Za0] at h
   | ⟨.str,_⟩::_,h,_=>simp [Za0] at h
   | ⟨.tree _,_⟩::_,h,_=>simp [Za0] at h
   | ⟨.prod _ _,_⟩::_,h,_=>simp [Za0] at h
   | ⟨.st _,_⟩::_,h,_=>simp [Za0] at h
   | ⟨.ptr _,_⟩::_,h,_=>simp [Za0] at h
   | ⟨.optr _,_⟩::_,h,_=>simp [Za0] at h
   | ⟨.opq _,x⟩::_,h,_=>exact nomatch x
end
theorem ZiI (b:Nat->Nat):∀ (x y:List SV) (ds:List D),ZbE b (x++y) ds=((ZbE b x ds).1++(ZbE b y (ZbE b x ds).2).1,(ZbE b y (ZbE b x ds).2).2)
 | [],y,ds=>rfl
 | v::x,y,ds=>by
  simp only [List.cons_append,ZbE];rw [ZiI b x y]
theorem ZgJ (b:Nat->Nat):∀ (l:List SV) (i:Nat) (ds:List D) (T0:Tr V2),(ZnM b (Zcm l i) ds T0).2=(ZbE b l ds).2/\(∀ j v,(ZbE b l ds).1[j]?=some v->(ZnM b (Zcm l i) ds T0).1.get (i+j)=some v)/\∀ c,c < i->(ZnM b (Zcm l i) ds T0).1.get c=T0.get c
 | [],i,ds,T0=>⟨rfl,fun j v h=>by simp [ZbE] at h,fun _ _=>rfl⟩
 | x::l,i,ds,T0=>by
  obtain ⟨h1,h2,h3⟩:=ZgJ b l (i+1) (Zh0 b x ds).2 (T0.put i (Zh0 b x ds).1);refine ⟨h1,?_,?_⟩
  ·intro j v h;simp only [ZbE] at h;cases j with
   | zero=>
    simp only [getElem?_cons_zero,injEq] at h;subst h;show (ZnM b (Zcm l (i+1)) _ _).1.get i=_;rw [h3 i (by omega),Tr.get_put,if_pos rfl]
   | succ j=>
    have:=h2 j v (by simpa using h);rw [show i+(j+1)=i+1+j from by omega];exact this
  ·intro c hc;show (ZnM b (Zcm l (i+1)) _ _).1.get c=_;rw [h3 c (by omega),Tr.get_put,if_neg (by omega)]
theorem Zc4:∀ (l:List AV) (i j:Nat),(ZcP l i).get (i+j)=l[j]?
 | [],i,j=>by simp [ZcP]
 | x::l,i,j=>by
  rw [ZcP,Tr.get_put];cases j with
  | zero=>simp
  | succ j=>
   rw [if_neg (by omega),show i+(j+1)=i+1+j from by omega,Zc4 l (i+1) j];simp
theorem ZgK:∀ (l:List V2) (i:Nat) (k:Nat) (v:V2),(Zg8 l i).get k=some v->∃ j,k=i+j/\l[j]?=some v
 | [],i,k,v,h=>by simp [Zg8] at h
 | x::l,i,k,v,h=>by
  rw [Zg8,Tr.get_put] at h;split at h
  ·rename_i e;cases h;exact ⟨0,by omega,rfl⟩
  ·obtain ⟨j,rfl,hj⟩:=ZgK l (i+1) k v h;exact ⟨j+1,by omega,by simpa using hj⟩
theorem Zeh (b:Nat->Nat):∀ (l:List SV) (ds:List D),(ZbE b l ds).1.length=l.length
 | [],_=>rfl
 | x::l,ds=>by simp only [ZbE,List.length_cons];rw [Zeh b l]
theorem Zbl.of {m:Nat} {a:Nat->AV}:∀ {l:List V2} {us:List AV},us.length=l.length->(∀ (i:Nat) (v:V2),l[i]?=some v->∃ u,us[i]?=some u/\VR2 m a v u)->Zbl m a l us
 | [],us,hl,_=>by
  cases us with
  | nil=>exact .nil
  | cons _ _=>simp at hl
 | v::l,us,hl,h=>by
  cases us with
  | nil=>simp at hl
  | cons u us=>
   obtain ⟨u',h1,h2⟩:=h 0 v rfl;simp only [getElem?_cons_zero,injEq] at h1;subst h1;exact .cons h2 (Zbl.of (by simpa using hl) (fun i w hw=>by simpa using h (i+1) w (by simpa using hw)))
theorem Zw5 {m:Nat} {a:Nat->AV} {c:Nat} {u:AV} (h:VR2 m a (.sl c) u):u=a c:=by cases h;rfl
theorem Zr6 {m:Nat} {a:Nat->AV} {c o:Nat} {u:AV} (h:VR2 m a (.bx c o) u):∃ n,a c=.mp n 0/\u=.mp n o:=by cases h with | bx _ h=>exact ⟨_,h,rfl⟩
theorem Zw6 {m:Nat} {a:Nat->AV} {l:List V2} {us:List AV} (h:Zbl m a l us):VR2 m a (Z0F l) (ZqE us):=by
 cases h with
 | nil=>exact .tup .nil
 | cons h1 h2=>
  cases h2 with
  | nil=>exact h1
  | cons h3 h4=>exact .tup (.cons h1 (.cons h3 h4))
theorem Zmh (H:Tr C2):∀ (cs:List Nat) (c:Nat),(ZsD H cs).get c=if c∈cs then none else H.get c
 | [],c=>by simp [ZsD]
 | d::cs,c=>by
  rw [ZsD,Tr.get_del,Zmh H cs c];by_cases h:c=d
  ·simp [h]
  ·simp [h]
theorem Zco {ρ:Rn}:∀ {n d:Nat},d∈Zfy ρ n↔∃ j,j < n/\ρ.get j=some (.ck d)
 | 0,d=>by simp [Zfy]
 | n+1,d=>by
  unfold Zfy;split
  ·rename_i e he;rw [List.mem_cons,Zco];constructor
   ·rintro (rfl | ⟨j,h1,h2⟩)
    ·exact ⟨n,by omega,he⟩
    ·exact ⟨j,by omega,h2⟩
   ·rintro ⟨j,h1,h2⟩;rcases lt_or_ge j n with h | h
    ·exact .inr ⟨j,h,h2⟩
    ·have:j=n:=by omega
     subst this;rw [he] at h2;cases h2;exact .inl rfl
  ·rename_i he;rw [Zco];constructor
   ·rintro ⟨j,h1,h2⟩;exact ⟨j,by omega,h2⟩
   ·rintro ⟨j,h1,h2⟩;rcases lt_or_ge j n with h | h
    ·exact ⟨j,h,h2⟩
    ·have:j=n:=by omega
     subst this;exact absurd h2 (he d)
theorem Zke {ρ:Rn}:∀ {n:Nat},Zrm ρ n=true->(∀ j,j < n->∃ d,ρ.get j=some (.ck d))/\∀ j j' d,j < n->j' < n->ρ.get j=some (.ck d)->ρ.get j'=some (.ck d)->j=j'
 | 0,_=>⟨fun j h=>by omega,fun j j' d h=>by omega⟩
 | n+1,h=>by
  unfold Zrm at h;split at h
  ·rename_i e he;simp only [and_eq_true,Bool.not_eq_true'] at h;obtain ⟨h1,h2⟩:=Zke h.2;have hn:e∉Zfy ρ n:=by
    intro hm;have:=List.contains_iff_mem.2 hm;rw [h.1] at this;cases this
   rw [Zco] at hn;refine ⟨fun j hj=>?_,fun j j' d hj hj' g g'=>?_⟩
   ·rcases lt_or_ge j n with hl | hl
    ·exact h1 j hl
    ·have:j=n:=by omega
     subst this;exact ⟨e,he⟩
   ·rcases lt_or_ge j n with hl | hl<;>rcases lt_or_ge j' n with hl' | hl'
    ·exact h2 j j' d hl hl' g g'
    ·have:j'=n:=by omega
     subst this;rw [he] at g';cases g';exact absurd ⟨j,hl,g⟩ hn
    ·have:j=n:=by omega
     subst this;rw [he] at g;cases g;exact absurd ⟨j',hl',g'⟩ hn
    ·omega
  ·cases h
def bxV (b:Nat->Nat):SV->V2
 | .bx c o=>.bx (b c) o
 | _=>.nils
theorem Zpk (b:Nat->Nat):∀ {l:List SV} {ds:List D},ZoB l=true->ZbE b l ds=(l.map (bxV b),ds)
 | [],ds,_=>rfl
 | v::l,ds,h=>by
  simp only [ZoB,all_cons,and_eq_true] at h;have ih:=Zpk b (l:=l) (ds:=ds) h.2;cases v<;>first | (cases h.1;done) | skip
  simp only [ZbE,Zh0,ih,List.map_cons,bxV]
theorem Zkf (b:Nat->Nat) (g:FuncId) {l:List SV} {ds:List D} (h:ZoB l=true):(Zh0 b (.fn g [] l) ds).1=.fn g [] (l.map (bxV b)):=by
 simp only [Zh0,ZbE,Zpk b h]
theorem Zpl (b:Nat->Nat) {l:List SV} {p c o:Nat} (h:l[p]?=some (.bx c o)):(l.map (bxV b))[p]?=some (.bx (b c) o):=by
 rw [List.getElem?_map,h];rfl
theorem Zmi (HK:KOk E K) (R:Rel F a fp s T S) {g:FuncId} {vs:List V2} {us:List AV} (hp:E.pol g=false) (hv:Zbl s.nx a vs us) (h:ZlP E s g vs k=some r):Res F a fp s T S (K g us S) k r/\∀ sp x ρ,E.im g vs=some sp->ZvT sp.inSh ⟨Zg8 vs 0,s.H,s.nx⟩=some (x,ρ)->∀ u S',K g us S=some (u,S')->∀ n,n < S.next->(∀ c∈Zfy ρ sp.cks.length,∀ ck,s.H.get c=some ck->ck.w=true->¬ fp c n)->rdB (S'.heap.get n)=rdB (S.heap.get n):=by
 simp only [ZlP,Zaa,Zak] at h;obtain ⟨sp,hsp,⟨x,ρ⟩,hx,hck,h⟩:=h;obtain ⟨y,hy,h⟩:=Option.bind_eq_some_iff.1 h;dsimp only at hx hck hy h;simp only [and_eq_true] at hck;obtain ⟨⟨hown,hlen⟩,hlive⟩:=hck;obtain ⟨hok,hin,hout,HI⟩:=HK.imp g vs sp hp hsp;simp only [Zbc.ok,and_eq_true] at hok;obtain ⟨⟨⟨hok1,hok2⟩,hok3⟩,hok4⟩:=hok;have hok1:=Nat.le_of_ble_eq_true hok1;have hok2:=Nat.le_of_ble_eq_true hok2;obtain ⟨ho1,ho2⟩:=Zke hown;have hlen:vs.length=sp.ins.length:=Zad.1 hlen;have hul:us.length=sp.ins.length:=by rw [hv.length,hlen]
 have hlive:∀ c,c∈Zfy ρ sp.cks.length->∃ ck,s.H.get c=some ck:=by
  intro c hc;have:=List.all_eq_true.1 hlive c hc;exact Option.isSome_iff_exists.1 this
 -- the callee's entry
 let s0:S2:=⟨.lf,.lf,0⟩
 have R0:Rel F a fp s0 (ZcP us 0) S:=
  {slots:=fun k v h=>by simp [s0] at h
   chunks:=fun k v h=>by simp [s0] at h
   dis:=fun k v _ _ h=>by simp [s0] at h
   lt:=fun k v h=>by simp [s0] at h
   nx:=fun k v h=>by simp [s0] at h
   fex:=R.fex
   fro:=R.fro
   dex:=fun k v h=>by simp [s0] at h
   dro:=fun k v h=>by simp [s0] at h }
 have Ra:Rel (F.fix s0 fp sp.inSh.fixed S) a fp ⟨Zg8 vs 0,s.H,s.nx⟩ (ZcP us 0) S:=
  {slots:=by
    intro k v h;obtain ⟨j,rfl,hj⟩:=ZgK vs 0 k v h;obtain ⟨u,h1,h2⟩:=hv.get hj;exact ⟨u,by rw [Zc4];exact h1,h2⟩
   chunks:=R.chunks
   dis:=R.dis
   lt:=R.lt
   nx:=R.nx
   fex:=fun n hn=>⟨rfl,(R.fex n hn).2⟩
   fro:=by
    rintro n (hn | ⟨c,⟨k,hk,_⟩,_⟩)
    ·exact ⟨rfl,(R.fro n hn).2⟩
    ·exact nomatch hk
   dex:=R.dex
   dro:=by
    rintro c ck hc hw n hf (hn | ⟨c,⟨k,hk,_⟩,_⟩)
    ·exact R.dro c ck hc hw n hf hn
    ·exact nomatch hk }
 obtain ⟨a1,fp1,R1,ha1,hf1⟩:=Zmg R0 hin Ra (fun k hk=>nomatch hk) (Nat.le_refl _) hx;have ha1:∀ j d,ρ.get j=some (.ck d)->a1 j=a d:=fun j d hj=>by
  have:=ha1 j d hj;simpa [s0] using this
 let G:List Nat:=Zfy ρ sp.cks.length
 let F1:Fr:=⟨fun n=>F.ex n\/∃ c ck,s.H.get c=some ck/\c∉G/\ck.w=true/\fp c n,fun n=>F.ro n\/(n < S.next/\∀ c∈G,∀ ck,s.H.get c=some ck->ck.w=true->¬ fp c n),S.heap,F.pn⟩
 have hjG:∀ j ck,(emb sp.inSh s0 x).H.get j=some ck->j < sp.cks.length:=by
  intro j ck hj;have:=R1.nx j ck hj;have e:(emb sp.inSh s0 x).nx=0+sp.cks.length:=rfl;rw [e] at this;omega
 have R1':Rel F1 a1 fp1 (emb sp.inSh s0 x) (ZcP us 0) S:=
  {R1 with
   fex:=by
    rintro n (hn | ⟨c,ck,h1,h2,h3,h4⟩)
    ·exact ⟨rfl,(R.fex n hn).2⟩
    ·exact ⟨rfl,R.lt c ck h1 n h4⟩
   fro:=by
    rintro n (hn | ⟨hn,_⟩)
    ·exact ⟨rfl,(R.fro n hn).2⟩
    ·exact ⟨rfl,hn⟩
   dex:=by
    rintro j ckj hj n hf (hn | ⟨c,ck,h1,h2,h3,h4⟩)
    ·exact R1.dex j ckj hj n hf hn
    ·obtain ⟨d,ckd,e1,e2,e3,e4⟩:=hf1 j ckj n (Nat.zero_le _) hj hf;have hd:d∈G:=Zco.2 ⟨j,hjG j ckj hj,by simpa [s0] using e1⟩;exact R.dis d c ckd ck e2 h1 (fun e=>h2 (e▸hd)) (.inr h3) n e4 h4
   dro:=by
    rintro j ckj hj hw n hf (hn | ⟨_,hn⟩)
    ·exact R1.dro j ckj hj hw n hf (.inl hn)
    ·obtain ⟨d,ckd,e1,e2,e3,e4⟩:=hf1 j ckj n (Nat.zero_le _) hj hf;have hd:d∈G:=Zco.2 ⟨j,hjG j ckj hj,by simpa [s0] using e1⟩;exact hn d hd ckd e2 (e3 hw) e4 }
 have hFro:∀ c ck n,s.H.get c=some ck->c∉G->fp c n->F1.ro n:=fun c ck n h1 h2 h3=>.inr ⟨R.lt c ck h1 n h3,fun d hd ckd hk hw hf=>R.dis d c ckd ck hk h1 (fun e=>h2 (e▸hd)) (.inl hw) n hf h3⟩;obtain ⟨ws,S',a2,fp2,hK,hwl,hn,R2⟩:=HI F1 a1 fp1 us S x y R1' hul hy;have hcl:sp.outSh.chunks.length=sp.couts.length:=rfl;have hnx2:(emb sp.outSh s0 y).nx=sp.couts.length:=zero_add _
 -- the numbers behind the call
 let b:Nat->Nat:=nuI s ρ sp.own
 let b0:Nat->Nat:=fun c=>0+c
 let nx3:=s.nx+(sp.couts.length - sp.own)
 let a3:Nat->AV:=fun c=>if c < s.nx then a c else a2 (sp.own+(c - s.nx))
 have hb1:∀ j,j < sp.own->ρ.get j=some (.ck (b j)):=by
  intro j hj;obtain ⟨d,hd⟩:=ho1 j hj;show _=some (CR.ck (nuI s ρ sp.own j));unfold nuI;rw [Za6.2 hj,hd];rfl
 have hb2:∀ j,sp.own<=j->b j=s.nx+(j - sp.own):=by
  intro j hj;show nuI s ρ sp.own j=_;unfold nuI;rw [show Nat.blt j sp.own=false from by
   cases hh:Nat.blt j sp.own
   ·rfl
   ·have:=Za6.1 hh;omega]
  rfl
 have hbG:∀ j,j < sp.own->b j∈G:=fun j hj=>Zco.2 ⟨j,by omega,hb1 j hj⟩;have hblt:∀ j,j < sp.own->b j < s.nx:=by
  intro j hj;obtain ⟨ck,hc⟩:=hlive _ (hbG j hj);exact R.nx _ ck hc
 have hinj:∀ c d,c < sp.couts.length->d < sp.couts.length->b c=b d->c=d:=by
  intro c d hc hd e;rcases lt_or_ge c sp.own with h1 | h1<;>rcases lt_or_ge d sp.own with h2 | h2
  ·have g1:=hb1 c h1;have g2:=hb1 d h2;rw [e] at g1;exact ho2 c d _ h1 h2 g1 g2
  ·have:=hblt c h1;have:=hb2 d h2;omega
  ·have:=hblt d h2;have:=hb2 c h1;omega
  ·have:=hb2 c h1;have:=hb2 d h2;omega
 -- the data behind the call
 let ds:=Zc9 sp.outSh.tys y
 let l:=sp.outs++sp.anc.map (·.2)
 have hlts:SV.ltsL sp.couts.length l=true:=by
  have h1:(sp.outSh.slots.all fun p=>p.2.lts sp.outSh.chunks.length)=true:=by
   simp only [Sh.ok,and_eq_true] at hout;exact hout.1
  have:∀ (l:List SV) (i:Nat),((Zcm l i).all fun p=>p.2.lts sp.couts.length)=true->SV.ltsL sp.couts.length l=true:=by
   intro l
   induction l with
   | nil=>intro i _;rfl
   | cons v l ih=>
    intro i h;simp only [Zcm,all_cons,and_eq_true] at h;simp only [SV.ltsL,and_eq_true];exact ⟨h.1,ih _ h.2⟩
  exact this l 0 h1
 obtain ⟨hS1,hS2,hS3⟩:=ZgJ b0 l 0 ds (ZlN s0 sp.outSh.fixed);have hslot:∀ (i:Nat) (v:V2),(ZbE b0 l ds).1[i]?=some v->∃ u,(ws++sp.anc.map fun q=>us.getD q.1 .nils)[i]?=some u/\VR2 sp.couts.length a2 v u:=by
  intro i v hi;obtain ⟨u,h1,h2⟩:=R2.slots (0+i) v (hS2 i v hi);rw [Zc4] at h1;rw [hnx2] at h2;exact ⟨u,h1,h2⟩
 have happ0:=ZiI b0 sp.outs (sp.anc.map (·.2)) ds;have happ:=ZiI b sp.outs (sp.anc.map (·.2)) ds
 -- the arguments' own chunks have stayed
 have hslot1:∀ (i:Nat) (v:V2),(ZbE b0 sp.ins (Zc9 sp.inSh.tys x)).1[i]?=some v->∃ u,us[i]?=some u/\VR2 (0+sp.cks.length) a1 v u:=by
  intro i v hi;obtain ⟨u,h1,h2⟩:=R1'.slots (0+i) v ((ZgJ b0 sp.ins 0 (Zc9 sp.inSh.tys x) (ZlN s0 sp.inSh.fixed)).2.1 i v hi);rw [Zc4] at h1;exact ⟨u,h1,h2⟩
 have ha2:∀ j,j < sp.own->a2 j=a (b j):=by
  intro j hj;have hj':=List.all_eq_true.1 hok3 j (List.mem_range.2 hj);rw [<-ha1 j (b j) (hb1 j hj)];unfold Zwk at hj';obtain ⟨i,hi,hj'⟩:=List.any_eq_true.1 hj';have hi:=List.mem_range.1 hi;cases hq:sp.anc[i]? with
  | none=>rw [hq] at hj';cases hj'
  | some q=>
   rw [hq] at hj';have hq':(sp.anc.map (·.2))[i]?=some q.2:=by rw [List.getElem?_map,hq];rfl
   have hget:∀ v ds,(∀ ds',(Zh0 b0 q.2 ds').1=v)->(ZbE b0 (sp.anc.map (·.2)) ds).1[i]?=some v:=by
    intro v ds hv';have:∀ (l:List SV) (i:Nat) (ds:List D),l[i]?=some q.2->(ZbE b0 l ds).1[i]?=some v:=by
     intro l
     induction l with
     | nil=>intro i ds h;simp at h
     | cons w l ih=>
      intro i ds h;cases i with
      | zero=>
       simp only [getElem?_cons_zero,injEq] at h;subst h;simp only [ZbE,getElem?_cons_zero,hv']
      | succ i=>
       simp only [ZbE,List.getElem?_cons_succ];exact ih i _ (by simpa using h)
    exact this _ i ds hq'
   have hget1:∀ w v,sp.ins[q.1]?=some w->(∀ ds',(Zh0 b0 w ds').1=v)->(ZbE b0 sp.ins (Zc9 sp.inSh.tys x)).1[q.1]?=some v:=by
    intro w v hw hv';have:∀ (l:List SV) (i:Nat) (ds:List D),l[i]?=some w->(ZbE b0 l ds).1[i]?=some v:=by
     intro l
     induction l with
     | nil=>intro i ds h;simp at h
     | cons w' l ih=>
      intro i ds h;cases i with
      | zero=>
       simp only [getElem?_cons_zero,injEq] at h;subst h;simp only [ZbE,getElem?_cons_zero,hv']
      | succ i=>
       simp only [ZbE,List.getElem?_cons_succ];exact ih i _ (by simpa using h)
    exact this _ _ _ hw
   have hexit:∀ v,(∀ ds',(Zh0 b0 q.2 ds').1=v)->∀ u,us[q.1]?=some u->VR2 sp.couts.length a2 v u:=by
    intro v hv' u hu;have e:(ZbE b0 l ds).1[sp.outs.length+i]?=some v:=by
     show (ZbE b0 (sp.outs++sp.anc.map (·.2)) ds).1[sp.outs.length+i]?=some v;rw [happ0];show (_++_)[_]?=_;rw [List.getElem?_append_right (by rw [Zeh];omega),Zeh,Nat.add_sub_cancel_left];exact hget v _ hv'
    obtain ⟨u',h1,h2⟩:=hslot _ v e;rw [List.getElem?_append_right (by omega),hwl,Nat.add_sub_cancel_left,List.getElem?_map,hq] at h1;simp only [Option.map_some,injEq,List.getD_eq_getElem?_getD,hu,Option.getD_some] at h1;rw [h1];exact h2
   dsimp only at hj';split at hj'
   ·rename_i c c' e1 e2;simp only [and_eq_true,Zad] at hj';obtain ⟨k1,k2⟩:=hj';rw [k1] at e1;rw [k2] at e2;obtain ⟨u,g1,g2⟩:=hslot1 q.1 (.sl (0+j)) (hget1 _ _ e2 (fun _=>rfl));have g3:=hexit (.sl (0+j)) (fun _=>by rw [e1];rfl) u g1;have i2:=Zw5 g2;have i3:=Zw5 g3;rw [zero_add] at i2 i3;rw [<-i2,<-i3]
   ·rename_i c o c' o' e1 e2;simp only [and_eq_true,Zad] at hj';obtain ⟨k1,k2⟩:=hj';rw [k1] at e1;rw [k2] at e2;obtain ⟨u,g1,g2⟩:=hslot1 q.1 (.bx (0+j) o') (hget1 _ _ e2 (fun _=>rfl));have g3:=hexit (.bx (0+j) o) (fun _=>by rw [e1];rfl) u g1;obtain ⟨n2,i2,j2⟩:=Zr6 g2;obtain ⟨n3,i3,j3⟩:=Zr6 g3;rw [zero_add] at i2 i3;rw [j2] at j3;cases j3;rw [i2,i3]
   ·rename_i gf x gf' x' e1 e2;simp only [and_eq_true] at hj';obtain ⟨⟨hbx,hbx'⟩,hj'⟩:=hj';obtain ⟨p,_,hj'⟩:=List.any_eq_true.1 hj';split at hj'
    ·rename_i c o c' o' f1 f2;simp only [and_eq_true,Zad] at hj';obtain ⟨k1,k2⟩:=hj';rw [k1] at f1;rw [k2] at f2;obtain ⟨u,g1,g2⟩:=hslot1 q.1 _ (hget1 _ _ e2 (fun ds'=>by rw [Zkf b0 gf' hbx']));have g3:=hexit _ (fun ds'=>by rw [e1,Zkf b0 gf hbx]) u g1;cases g2 with | fn q1 q2=>
     cases g3 with | fn r1 r2=>
     obtain ⟨u1,m1,m2⟩:=q2.get (Zpl b0 f2);obtain ⟨u2,m3,m4⟩:=r2.get (Zpl b0 f1);rw [m1] at m3;cases m3;obtain ⟨n2,i2,j2⟩:=Zr6 m2;obtain ⟨n3,i3,j3⟩:=Zr6 m4;have z0:b0 j=j:=zero_add j;rw [z0] at i2 i3;rw [j2] at j3;cases j3;rw [i2,i3]
    ·cases hj'
   ·cases hj'
 have hren:∀ c,c < sp.couts.length->b c < nx3/\a3 (b c)=a2 (b0 c):=by
  intro c hc;show b c < s.nx+(sp.couts.length - sp.own)/\(if b c < s.nx then a (b c) else a2 (sp.own+(b c - s.nx)))=a2 (0+c);rw [zero_add];rcases lt_or_ge c sp.own with h1 | h1
  ·have:=hblt c h1;rw [if_pos this];exact ⟨by omega,(ha2 c h1).symm⟩
  ·have:=hb2 c h1;rw [if_neg (by omega),this];exact ⟨by omega,by congr 1;omega⟩
 obtain ⟨hr1,hr2⟩:=ZsL (b:=b0) (b':=b) (M:=sp.couts.length) (M':=nx3) (A:=a2) (A':=a3) l ds hlts hren
 -- where the new chunks' blocks are
 let isO:Nat->Prop:=fun c=>∃ j,j < sp.own/\ρ.get j=some (.ck c)
 let fp3:Nat->Nat->Prop:=fun c n=>if s.nx<=c then fp2 (sp.own+(c - s.nx)) n else (∃ j,j < sp.own/\ρ.get j=some (.ck c)/\fp2 j n)\/((¬ ∃ j,j < sp.own/\ρ.get j=some (.ck c))/\fp c n)
 have hfp1:∀ j,fp3 (b j)=fp2 j:=by
  intro j;funext n;apply propext;show (if s.nx<=b j then _ else _)↔_;rcases lt_or_ge j sp.own with h1 | h1
  ·have:=hblt j h1;rw [if_neg (by omega)];constructor
   ·rintro (⟨j',g1,g2,g3⟩ | ⟨g1,_⟩)
    ·have:=ho2 j j' _ h1 g1 (hb1 j h1) g2;subst this;exact g3
    ·exact absurd ⟨j,h1,hb1 j h1⟩ g1
   ·intro g;exact .inl ⟨j,h1,hb1 j h1,g⟩
  ·have:=hb2 j h1;rw [if_pos (by omega),this];rw [show sp.own+(s.nx+(j - sp.own) - s.nx)=j from by omega]
 have hfp2:∀ c,c < s.nx->c∉G->fp3 c=fp c:=by
  intro c hc hG;funext n;apply propext;show (if s.nx<=c then _ else _)↔_;rw [if_neg (by omega)];constructor
  ·rintro (⟨j,g1,g2,_⟩ | ⟨_,g⟩)
   ·exact absurd (Zco.2 ⟨j,by omega,g2⟩) hG
   ·exact g
  ·intro g;refine .inr ⟨?_,g⟩;rintro ⟨j,g1,g2⟩;exact hG (Zco.2 ⟨j,by omega,g2⟩)
 have ha3:∀ c,c < s.nx->a3 c=a c:=fun c hc=>if_pos hc
 -- the chunks behind the call
 let q2:=(ZbE b0 l ds).2
 let H3:=(Ze7 b sp.couts 0 q2 (ZsD s.H G)).1
 have hchk:(sp.couts.all fun c=>match c with | .box l _=>SV.ltsL sp.couts.length l | _=>true)=true:=by
  simp only [Sh.ok,and_eq_true] at hout;exact hout.2
 obtain ⟨c1,c2,c3⟩:=ZiH sp.couts 0 q2 (ZsD s.H G) sp.couts.length (by omega) (b:=b) hinj;obtain ⟨_,d2,_⟩:=ZiH sp.couts 0 q2 (ZjR s0 sp.outSh.fixed) sp.couts.length (by omega) (b:=b0) (fun c d _ _ e=>by simpa [b0] using e);have hE2:(emb sp.outSh s0 y).H=(Ze7 b0 sp.couts 0 q2 (ZjR s0 sp.outSh.fixed)).1:=by
  show (Ze7 b0 sp.couts 0 (ZnM b0 (Zcm l 0) ds (ZlN s0 sp.outSh.fixed)).2 (ZjR s0 sp.outSh.fixed)).1=_;rw [hS1]
 have hnew:∀ j ck,(Za0 b sp.couts q2)[j]?=some ck->∃ ck0,(emb sp.outSh s0 y).H.get j=some ck0/\ck.w=ck0.w/\j < sp.couts.length/\Zcr F.pn nx3 a3 S'.heap (fp2 j) (a2 j) ck:=by
  intro j ck hj;obtain ⟨ck0,e1,e2,e3⟩:=ZvV (n:=sp.couts.length) (b:=b0) (b':=b) (M:=sp.couts.length) (M':=nx3) (A:=a2) (A':=a3) sp.couts q2 hchk hren j ck hj;have g:=d2 j ck0 e1;rw [<-hE2,show b0 (0+j)=j from by show 0+(0+j)=j;omega] at g;refine ⟨ck0,g,e2,?_,?_⟩
  ·have:=R2.nx j ck0 g;rw [hnx2] at this;exact this
  ·have:=R2.chunks j ck0 g;rw [hnx2] at this;exact e3 _ _ _ this
 have hck:∀ c ck,H3.get c=some ck->(c < s.nx/\c∉G/\s.H.get c=some ck)\/(∃ j ck0,c=b j/\(emb sp.outSh s0 y).H.get j=some ck0/\ck.w=ck0.w/\j < sp.couts.length/\Zcr F.pn nx3 a3 S'.heap (fp2 j) (a2 j) ck):=by
  intro c ck hc;rcases c1 c ck hc with hc | ⟨j,rfl,hj⟩
  ·rw [Zmh] at hc;split at hc
   ·cases hc
   ·rename_i hG;exact .inl ⟨R.nx c ck hc,hG,hc⟩
  ·obtain ⟨ck0,g⟩:=hnew j ck hj;exact .inr ⟨j,ck0,by rw [zero_add],g⟩
 have hnx:s.nx<=nx3:=Nat.le_add_right _ _;have hw1:∀ n c ck,s.H.get c=some ck->c∉G->fp c n->ck.w=true->S'.heap.get n=S.heap.get n:=fun n c ck h1 h2 h3 h4=>(R2.fex n (.inr ⟨c,ck,h1,h2,h4,h3⟩)).1;have hw2:∀ n c ck,s.H.get c=some ck->c∉G->fp c n->rdB (S'.heap.get n)=rdB (S.heap.get n):=fun n c ck h1 h2 h3=>(R2.fro n (hFro c ck n h1 h2 h3)).1;have R3:Rel F a3 fp3 ⟨s.T,H3,nx3⟩ T S':=by
  refine { slots:=?_,chunks:=?_,dis:=?_,lt:=?_,nx:=?_,fex:=?_,fro:=?_,dex:=?_,dro:=?_ }
  ·intro k v h;obtain ⟨u,g1,g2⟩:=R.slots k v h;exact ⟨u,g1,g2.mono hnx ha3⟩
  ·intro c ck h;rcases hck c ck h with ⟨g1,g2,g3⟩ | ⟨j,ck0,rfl,g1,g2,g3,g4⟩
   ·rw [hfp2 c g1 g2];show Zcr F.pn nx3 a3 S'.heap (fp c) (a3 c) ck;rw [ha3 c g1];cases hw:ck.w with
    | true=>exact (R.chunks c ck g3).mono hnx ha3 (fun n hn=>hw1 n c ck g3 g2 hn hw)
    | false=>exact (R.chunks c ck g3).monoR hnx ha3 (fun n hn=>hw2 n c ck g3 g2 hn) hw
   ·rw [hfp1];show Zcr F.pn nx3 a3 S'.heap (fp2 j) (a3 (b j)) ck;rw [(hren j g3).2,show b0 j=j from zero_add j];exact g4
  ·intro c c' ck ck' h h' hne hw n hf hf';rcases hck c ck h with ⟨g1,g2,g3⟩ | ⟨j,ck0,rfl,g1,g2,g3,g4⟩<;>rcases hck c' ck' h' with ⟨g1',g2',g3'⟩ | ⟨j',ck0',rfl,g1',g2',g3',g4'⟩
   ·rw [hfp2 c g1 g2] at hf;rw [hfp2 c' g1' g2'] at hf';exact R.dis c c' ck ck' g3 g3' hne hw n hf hf'
   ·rw [hfp2 c g1 g2] at hf;rw [hfp1] at hf';cases hwc:ck.w with
    | true=>exact R2.dex j' ck0' g1' n hf' (.inr ⟨c,ck,g3,g2,hwc,hf⟩)
    | false=>
     have hw':ck'.w=true:=hw.resolve_left (by rw [hwc];simp);exact R2.dro j' ck0' g1' (by rw [<-g2'];exact hw') n hf' (hFro c ck n g3 g2 hf)
   ·rw [hfp2 c' g1' g2'] at hf';rw [hfp1] at hf;cases hwc:ck'.w with
    | true=>exact R2.dex j ck0 g1 n hf (.inr ⟨c',ck',g3',g2',hwc,hf'⟩)
    | false=>
     have hw':ck.w=true:=hw.resolve_right (by rw [hwc];simp);exact R2.dro j ck0 g1 (by rw [<-g2];exact hw') n hf (hFro c' ck' n g3' g2' hf')
   ·rw [hfp1] at hf hf';exact R2.dis j j' ck0 ck0' g1 g1' (fun e=>hne (by rw [e])) (by rw [<-g2,<-g2'];exact hw) n hf hf'
  ·intro c ck h n hf;rcases hck c ck h with ⟨g1,g2,g3⟩ | ⟨j,ck0,rfl,g1,g2,g3,g4⟩
   ·rw [hfp2 c g1 g2] at hf;exact Nat.lt_of_lt_of_le (R.lt c ck g3 n hf) hn
   ·rw [hfp1] at hf;exact R2.lt j ck0 g1 n hf
  ·intro c ck h;rcases hck c ck h with ⟨g1,g2,g3⟩ | ⟨j,ck0,rfl,g1,g2,g3,g4⟩
   ·exact Nat.lt_of_lt_of_le g1 hnx
   ·exact (hren j g3).1
  ·intro n h;obtain ⟨e,l⟩:=R2.fex n (.inl h);exact ⟨by rw [e];exact (R.fex n h).1,l⟩
  ·intro n h;obtain ⟨e,l⟩:=R2.fro n (.inl h);exact ⟨by rw [e];exact (R.fro n h).1,l⟩
  ·intro c ck h n hf he;rcases hck c ck h with ⟨g1,g2,g3⟩ | ⟨j,ck0,rfl,g1,g2,g3,g4⟩
   ·rw [hfp2 c g1 g2] at hf;exact R.dex c ck g3 n hf he
   ·rw [hfp1] at hf;exact R2.dex j ck0 g1 n hf (.inl he)
  ·intro c ck h hw n hf he;rcases hck c ck h with ⟨g1,g2,g3⟩ | ⟨j,ck0,rfl,g1,g2,g3,g4⟩
   ·rw [hfp2 c g1 g2] at hf;exact R.dro c ck g3 hw n hf he
   ·rw [hfp1] at hf;exact R2.dro j ck0 g1 (by rw [<-g2];exact hw) n hf (.inl he)
 -- its results
 have hres:Zbl nx3 a3 (ZbE b sp.outs ds).1 ws:=by
  have h0:Zbl sp.couts.length a2 (ZbE b0 sp.outs ds).1 ws:=by
   refine Zbl.of (by rw [Zeh,hwl]) (fun i v hi=>?_);have hil:i < sp.outs.length:=by
    rcases lt_or_ge i sp.outs.length with h | h
    ·exact h
    ·rw [List.getElem?_eq_none (by rw [Zeh];exact h)] at hi;cases hi
   have e:(ZbE b0 l ds).1[i]?=some v:=by
    show (ZbE b0 (sp.outs++sp.anc.map (·.2)) ds).1[i]?=some v;rw [happ0];show (_++_)[_]?=_;rw [List.getElem?_append_left (by rw [Zeh];exact hil)];exact hi
   obtain ⟨u,g1,g2⟩:=hslot i v e;rw [List.getElem?_append_left (by omega)] at g1;exact ⟨u,g1,g2⟩
  have hl1:SV.ltsL sp.couts.length sp.outs=true:=by
   have:∀ (x y:List SV),SV.ltsL sp.couts.length (x++y)=true->SV.ltsL sp.couts.length x=true:=by
    intro x
    induction x with
    | nil=>intro y _;rfl
    | cons v x ih=>
     intro y h;simp only [List.cons_append,SV.ltsL,and_eq_true] at h |-
     exact ⟨h.1,ih y h.2⟩
   exact this _ _ hlts
  exact (ZsL (b:=b0) (b':=b) (M:=sp.couts.length) (M':=nx3) (A:=a2) (A':=a3) sp.outs ds hl1 hren).2 _ h0
 have hq2:(ZbE b (sp.anc.map (·.2)) (ZbE b sp.outs ds).2).2=q2:=by
  show _=(ZbE b0 l ds).2;rw [hr1];show _=(ZbE b (sp.outs++sp.anc.map (·.2)) ds).2;rw [happ]
 have h:k (Z0F (ZbE b sp.outs ds).1) ⟨s.T,(Ze7 b sp.couts 0 (ZbE b (sp.anc.map (·.2)) (ZbE b sp.outs ds).2).2 (ZsD s.H G)).1,nx3⟩=some r:=h;rw [hq2] at h;refine ⟨⟨_,_,_,a3,fp3,S',hK,hn,R3,rfl,Zw6 hres,h,hnx,fun c hc=>⟨ha3 c hc,fun hnone=>hfp2 c hc (fun hG=>?_)⟩⟩,?_⟩
 ·obtain ⟨ck,hc⟩:=hlive c hG;rw [hc] at hnone;cases hnone
 ·intro sp' x' ρ' hsp' hx' u S9 hK' n hnn hd;rw [hsp] at hsp';cases hsp';rw [hx] at hx';cases hx';rw [hK] at hK';cases hK';exact (R2.fro n (.inr ⟨hnn,hd⟩)).1
end
end Go.Eng
