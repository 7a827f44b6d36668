import Derived.Test.YtipafbfdjfbkbaaGreatDoorE2Op3
set_option linter.unusedVariables false
set_option linter.unusedSectionVars false
open Option.some (injEq)
open Nat (le_refl)
namespace Go.Eng
theorem ZeQ (g:St->AV->Option (AV×St)):∀ (l m:List AV) (S:St),ZbN g S (l++m)=(ZbN g S l).ob fun p=>(ZbN g p.2 m).ob fun q=>some (p.1++q.1,q.2)
 | [],m,S=>by
  simp only [List.nil_append,ZbN,Zap];cases ZbN g S m<;>rfl
 | x::l,m,S=>by
  simp only [List.cons_append,ZbN];cases g S x with
  | none=>rfl
  | some p=>
   simp only [Zap,ZeQ g l m];cases ZbN g p.2 l with
   | none=>rfl
   | some q=>
    simp only [Zap];cases ZbN g q.2 m<;>rfl
theorem ZlW {n:Nat} {S:St} {c v:AV} (h:NR c v) (hc:∀ S,frz (n+1) S c=some (c,S)):frz (n+1) S v=some (c,S):=by
 rcases h with rfl | ⟨rfl,rfl⟩
 ·exact hc S
 ·rfl
theorem Zf0 {n:Nat} {S:St} {c v:AV} {vs:List AV} (h:NRs [c] vs) (hc:∀ S,frz (n+1) S c=some (c,S)):ZbN (frz (n+1)) S vs=some ([c],S):=by
 cases h with | cons h1 h2=>cases h2;simp only [ZbN,ZlW h1 hc,Zap]
theorem ZhL (n:Nat):∀ (t:Ty) (x:t.den) {cs:List AV} {S:St},NRs (t.cells x) cs->ZbN (frz (n+1)) S cs=some (t.cells x,S)
 | .prod p q,x,cs,S,h=>by
  obtain ⟨b,d,rfl,h1,h2⟩:=NRs.split h;rw [ZeQ,ZhL n p x.1 h1,Zap,ZhL n q x.2 h2,Zap];rfl
 | .st t,x,cs,S,h=>ZhL n t x h
 | .int _,x,cs,S,h=>Zf0 (v:=.nilp) h (fun _=>rfl)
 | .bool,x,cs,S,h=>Zf0 (v:=.nilp) h (fun _=>rfl)
 | .str,x,cs,S,h=>Zf0 (v:=.nilp) h (fun _=>rfl)
 | .tree k,x,cs,S,h=>by
  rw [Ty.cells_tree] at h |-
  exact ZhL n k.W (k.unf x) h
 | .list _,x,cs,S,h=>Zf0 (v:=.nilp) h (fun _=>rfl)
 | .ptr _,x,cs,S,h=>Zf0 (v:=.nilp) h (fun _=>rfl)
 | .optr _,x,cs,S,h=>by cases x<;>exact Zf0 (v:=.nilp) h (fun _=>rfl)
 | .opq _,x,_,_,_=>nomatch x
termination_by t=>t.rk
decreasing_by all_goals first | exact TK.rk _ | (simp only [Ty.rk];omega)
theorem Zkd (n:Nat) {t:Ty}:∀ (l:List t.den) {cs:List AV} {S:St},NRs (l.flatMap t.cells) cs->ZbN (frz (n+1)) S cs=some (l.flatMap t.cells,S)
 | [],cs,S,h=>by cases h;rfl
 | x::l,cs,S,h=>by
  obtain ⟨b,d,rfl,h1,h2⟩:=NRs.split h;rw [ZeQ,ZhL n t x h1,Zap,Zkd n l h2,Zap];rfl
noncomputable def Zjm:(ts:List Ty)->Zfj ts->List AV
 | [],_=>[]
 | [t],x=>[t.enc x]
 | t::u::ts,x=>t.enc x.1::Zjm (u::ts) x.2
noncomputable def ZvU:(ts:List Ty)->Zfj ts->AV
 | [t],x=>t.enc x
 | ts,x=>.tup (Zjm ts x)
section
variable [Gl] [Mx] {P:Program} {K:ZcY} {E:Zcn} {F:Fr} {a:Nat->AV} {fp:Nat->Nat->Prop} {s s0:S2} {T:Tm} {S S':St} {α:Type} {k:K2 α} {r:α}
def Z0c (n:Nat) (g:FzT):Prop:=∀ (F:Fr) (a:Nat->AV) (fp:Nat->Nat->Prop) (s:S2) (T:Tm) (S:St),Rel F a fp s T S->∀ (t:Ty) (v:V2) (x:t.den) (H':Tr C2),g t v s.H=some (x,H') ->
 ∀ u,VR2 s.nx a v u->∃ S',frz n S u=some (t.enc x,S')/\S'.next=S.next/\Rel F a fp ⟨s.T,H',s.nx⟩ T S'
theorem ZlX {n:Nat} {g:FzT} (G:Z0c n g):∀ (t:Ty) {s:S2} {S:St},Rel F a fp s T S->∀ {l:List V2} {x:t.den} {H':Tr C2},fzC g t l s.H=some (x,H')->∀ {cs:List AV},Zbl s.nx a l cs ->
 ∃ S',ZbN (frz n) S cs=some (t.cells x,S')/\S'.next=S.next/\Rel F a fp ⟨s.T,H',s.nx⟩ T S':=by
 have leaf:∀ (t:Ty),t.agg=false->t.size=1->∀ {s:S2} {S:St},Rel F a fp s T S->∀ {l:List V2} {x:t.den} {H':Tr C2},(match l with | [v]=>g t v s.H | _=>none)=some (x,H')->∀ {cs:List AV},Zbl s.nx a l cs ->
  ∃ S',ZbN (frz n) S cs=some (t.cells x,S')/\S'.next=S.next/\Rel F a fp ⟨s.T,H',s.nx⟩ T S':=by
  intro t ha hs s S R l x H' h cs hv;split at h
  ·cases hv with | cons h1 h2=>
   cases h2;obtain ⟨S',e1,e2,R'⟩:=G F a fp s T S R t _ x H' h _ h1;exact ⟨S',by simp only [ZbN,e1,Zap];rw [Ty.enc_cells t x ha hs],e2,R'⟩
  ·cases h
 intro t
 induction t using Ty.ind with
 | prod p q ihp ihq=>
  intro s S R l x H' h cs hv;simp only [fzC,Zaa,injEq] at h;obtain ⟨⟨x1,H1⟩,h1,⟨x2,H2⟩,h2,h⟩:=h;cases h;obtain ⟨S1,e1,n1,R1⟩:=ihp R h1 (hv.take p.size);obtain ⟨S2',e2,n2,R2⟩:=ihq R1 h2 (hv.drop p.size);refine ⟨S2',?_,by rw [n2,n1],R2⟩
  conv=>lhs;rw [<-List.take_append_drop p.size cs]
  rw [ZeQ,e1,Zap];simp only;rw [e2,Zap];rfl
 | st t ih=>intro s S R l x H' h cs hv;exact ih R h hv
 | int k=>intro s S R l x H' h cs hv;exact leaf _ rfl rfl R h hv
 | bool=>intro s S R l x H' h cs hv;exact leaf _ rfl rfl R h hv
 | str=>intro s S R l x H' h cs hv;exact leaf _ rfl rfl R h hv
 | tree k ih=>
  intro s S R l x H' h cs hv;rw [ZGS] at h;simp only [Zaa,injEq,Prod.mk.injEq] at h;obtain ⟨⟨y,H1⟩,h1,rfl,rfl⟩:=h;obtain ⟨S',e1,n1,R1⟩:=ih R h1 hv;refine ⟨S',?_,n1,R1⟩;rw [e1];show some (k.W.cells y,S')=some (k.cells (k.fold y),S');rw [TK.fold_cells]
 | list t=>intro s S R l x H' h cs hv;exact leaf _ rfl rfl R h hv
 | ptr t=>intro s S R l x H' h cs hv;exact leaf _ rfl rfl R h hv
 | optr t=>intro s S R l x H' h cs hv;exact leaf _ rfl rfl R h hv
 | opq z=>intro s S R l x;exact nomatch x
theorem ZlY {n:Nat} {g:FzT} (G:Z0c n g) (t:Ty):∀ (m:Nat) {s:S2} {S:St},Rel F a fp s T S->∀ {l:List V2} {x:List t.den} {H':Tr C2},fzN g t m l s.H=some (x,H')->∀ {cs:List AV},Zbl s.nx a l cs ->
 ∃ S',ZbN (frz n) S cs=some (x.flatMap t.cells,S')/\S'.next=S.next/\x.length=m/\Rel F a fp ⟨s.T,H',s.nx⟩ T S'
 | 0,s,S,R,l,x,H',h,cs,hv=>by
  simp only [fzN] at h;split at h
  ·cases h;cases hv;exact ⟨S,rfl,rfl,rfl,R⟩
  ·cases h
 | m+1,s,S,R,l,x,H',h,cs,hv=>by
  simp only [fzN,Zaa,injEq] at h;obtain ⟨⟨x1,H1⟩,h1,⟨x2,H2⟩,h2,h⟩:=h;cases h;obtain ⟨S1,e1,n1,R1⟩:=ZlX G t R h1 (hv.take t.size);obtain ⟨S2',e2,n2,n3,R2⟩:=ZlY G t m R1 h2 (hv.drop t.size);refine ⟨S2',?_,by rw [n2,n1],by simp [n3],R2⟩
  conv=>lhs;rw [<-List.take_append_drop t.size cs]
  rw [ZeQ,e1,Zap];simp only;rw [e2,Zap];rfl
theorem Zr2 {t:Ty} (l:List t.den):Ty.enc (.list t) l=.fs (l.flatMap t.cells) l.length:=rfl
theorem ZsH {n q off len z:Nat} {cap:Option Nat} {blk r cs:List AV} {S1 S2':St} (hb:rdB (S.heap.get q)=some blk) (hs:sub blk off (len * z)=some r)
 (h1:∀ h',(∀ m,h'.get m=S.heap.get m\/(m=q/\rdB (h'.get m)=rdB (S.heap.get m)))->(∃ S',ZbN (frz n) ⟨h',S.next⟩ r=some (cs,S')/\S'.next=S.next/\Rel F a fp s T S')) :
 ∃ S',frz (n+1) S (.ms q off len cap z)=some (.fs cs len,S')/\S'.next=S.next/\Rel F a fp s T S':=by
 cases hg:S.heap.get q with
 | none=>rw [hg] at hb;cases hb
 | some b=>
  cases b with
  | map _ _=>rw [hg] at hb;cases hb
  | cells c=>
   rw [hg] at hb;cases hb;obtain ⟨S',e,en,R⟩:=h1 (S.heap.put q (.ice blk)) (fun m=>by
    rw [Tr.get_put];split
    ·rename_i em;subst em;rw [hg];exact .inr ⟨rfl,rfl⟩
    ·exact .inl rfl)
   refine ⟨S',?_,en,R⟩;show (S.heap.get q).ob _=_;rw [hg,Zap];show (sub blk off (len * z)).ob _=_;rw [hs,Zap];show (ZbN (frz n) ⟨S.heap.put q (.ice blk),S.next⟩ r).ob _=_;rw [e,Zap]
  | ice c=>
   rw [hg] at hb;cases hb;obtain ⟨S',e,en,R⟩:=h1 S.heap (fun m=>.inl rfl);refine ⟨S',?_,en,R⟩;show (S.heap.get q).ob _=_;rw [hg,Zap];show (sub blk off (len * z)).ob _=_;rw [hs,Zap];show (ZbN (frz n) ⟨S.heap,S.next⟩ r).ob _=_;rw [e,Zap]
theorem ZsI {n q:Nat} {blk cs:List AV} (hb:rdB (S.heap.get q)=some blk)
 (h1:∀ h',(∀ m,h'.get m=S.heap.get m\/(m=q/\rdB (h'.get m)=rdB (S.heap.get m)))->(∃ S',ZbN (frz n) ⟨h',S.next⟩ blk=some (cs,S')/\S'.next=S.next/\Rel F a fp s T S')) :
 ∃ S',frz (n+1) S (.mp q 0)=some (.fp cs,S')/\S'.next=S.next/\Rel F a fp s T S':=by
 cases hg:S.heap.get q with
 | none=>rw [hg] at hb;cases hb
 | some b=>
  cases b with
  | map _ _=>rw [hg] at hb;cases hb
  | cells c=>
   rw [hg] at hb;cases hb;obtain ⟨S',e,en,R⟩:=h1 (S.heap.put q (.ice blk)) (fun m=>by
    rw [Tr.get_put];split
    ·rename_i em;subst em;rw [hg];exact .inr ⟨rfl,rfl⟩
    ·exact .inl rfl)
   refine ⟨S',?_,en,R⟩;show (S.heap.get q).ob _=_;rw [hg,Zap];show (ZbN (frz n) ⟨S.heap.put q (.ice blk),S.next⟩ blk).ob _=_;rw [e,Zap]
  | ice c=>
   rw [hg] at hb;cases hb;obtain ⟨S',e,en,R⟩:=h1 S.heap (fun m=>.inl rfl);refine ⟨S',?_,en,R⟩;show (S.heap.get q).ob _=_;rw [hg,Zap];show (ZbN (frz n) ⟨S.heap,S.next⟩ blk).ob _=_;rw [e,Zap]
theorem Rel.lockQ (R:Rel F a fp s T S) {c q:Nat} {ck:C2} (hc:s.H.get c=some ck) (hm:ck.isMap=false) (hq:fp c q) {h':Tr AB} (h1:∀ m,h'.get m=S.heap.get m\/(m=q/\rdB (h'.get m)=rdB (S.heap.get m))) :
 Rel F a fp ⟨s.T,s.H.put c ck.ro,s.nx⟩ T ⟨h',S.next⟩:=
 R.lock hc hm (fun m=>(h1 m).imp id (fun e=>⟨by rw [e.1];exact hq,e.2⟩))
theorem Zuu (n:Nat) {fpc:Nat->Prop} {v:AV} {t:Ty} {l:List t.den} {S:St} (hr:Znx S.heap fpc v t l true\/NR (.fs (l.flatMap t.cells) l.length) v) :
 ∃ h',frz (n+2) S v=some (.fs (l.flatMap t.cells) l.length,⟨h',S.next⟩)/\∀ m,h'.get m=S.heap.get m\/(fpc m/\rdB (h'.get m)=rdB (S.heap.get m)):=by
 rcases hr with hr | rfl | ⟨hr,rfl⟩
 rotate_left
 ·exact ⟨S.heap,rfl,fun _=>.inl rfl⟩
 ·exact ⟨S.heap,by rw [hr];rfl,fun _=>.inl rfl⟩
 rcases hr.2 with ⟨rfl,rfl⟩ | ⟨_,rfl⟩ | ⟨q,o,cap,cs,pre,post,rfl,hs⟩
 ·exact ⟨S.heap,rfl,fun _=>.inl rfl⟩
 ·exact ⟨S.heap,rfl,fun _=>.inl rfl⟩
 ·have hb:S.heap.get q=some (.cells (pre++(cs++post))):=hs.blk;refine ⟨S.heap.put q (.ice (pre++(cs++post))),?_,fun m=>?_⟩
  ·show (S.heap.get q).ob _=_;rw [hb,Zap];show (sub (pre++(cs++post)) o (l.length * t.size)).ob _=_;rw [Zdv (n:=l.length * t.size) hs.off (by rw [hs.nr.length,Zd5]),Zap];show (ZbN (frz (n+1)) ⟨S.heap.put q (.ice (pre++(cs++post))),S.next⟩ cs).ob _=_;rw [Zkd n l hs.nr,Zap]
  ·rw [Tr.get_put];split
   ·rename_i em;subst em;exact .inr ⟨hs.fp,by rw [hb];rfl⟩
   ·exact .inl rfl
theorem ZlZ (n:Nat) {t:Ty} {fps:Nat->Nat->Prop} (hd:∀ i i' m,i≠i'->fps i m->¬ fps i' m):∀ (l:List (List t.den)) (cs:List AV) (j:Nat) (S:St),cs.length=l.length ->
 (∀ (i:Nat) (x:List t.den),l[i]?=some x->∃ c:AV,cs[i]?=some c/\(Znx S.heap (fps (j+i)) c t x true\/NR (.fs (x.flatMap t.cells) x.length) c)) ->
 ∃ h',ZbN (frz (n+2)) S cs=some (l.flatMap (Ty.list t).cells,⟨h',S.next⟩)/\∀ m,h'.get m=S.heap.get m\/((∃ i,j<=i/\fps i m)/\rdB (h'.get m)=rdB (S.heap.get m))
 | [],cs,j,S,hl,_=>by
  cases cs with
  | nil=>exact ⟨S.heap,rfl,fun _=>.inl rfl⟩
  | cons _ _=>simp at hl
 | x::l,cs,j,S,hl,h=>by
  cases cs with
  | nil=>simp at hl
  | cons c cs=>
   obtain ⟨c',e1,r1⟩:=h 0 x rfl;simp only [List.getElem?_cons_zero,injEq] at e1;subst e1;obtain ⟨h1,e2,g1⟩:=Zuu n r1;obtain ⟨h2,e3,g2⟩:=ZlZ n hd l cs (j+1) ⟨h1,S.next⟩ (by simpa using hl) (fun i y hy=>by
    obtain ⟨c2,e4,r2⟩:=h (i+1) y (by simpa using hy);refine ⟨c2,by simpa using e4,?_⟩;rw [show j+(i+1)=j+1+i from by omega] at r2;refine r2.imp (fun r2=>r2.mono (fun _ h=>h) (fun m hm=>?_)) id;rcases g1 m with e | ⟨e,_⟩
    ·exact e
    ·exact absurd hm (hd (j+0) (j+1+i) m (by omega) e))
   refine ⟨h2,?_,fun m=>?_⟩
   ·simp only [ZbN,e2,Zap,e3];rfl
   ·rcases g2 m with e | ⟨⟨i,hi,hf⟩,e⟩
    ·rcases g1 m with e' | ⟨hf,e'⟩
     ·exact .inl (by rw [e];exact e')
     ·exact .inr ⟨⟨j+0,by omega,hf⟩,by rw [e];exact e'⟩
    ·refine .inr ⟨⟨i,by omega,hf⟩,?_⟩;rw [e];rcases g1 m with e' | ⟨_,e'⟩
     ·show rdB (h1.get m)=_;rw [e']
     ·exact e'
theorem ZdN:∀ n,Z0c n (fzV n)
 | 0=>by intro F a fp s T S R t v x H' h;cases h
 | n+1=>by
  intro F a fp s T S R t v x H' h u hv;cases v<;>simp only [fzV] at h<;>try (cases h;done)
  case dat w y=>
   rw [Zak,Zah] at h;obtain ⟨hn,h⟩:=h;simp only [Zaa,injEq,Prod.mk.injEq] at h;obtain ⟨y',hy,rfl,rfl⟩:=h;obtain ⟨e2,_⟩:=Zal hy;subst e2;have hy:=Zca hy;subst hy;cases hv with | dat d=>
   refine ⟨S,?_,rfl,R⟩;obtain ⟨n,rfl⟩:∃ m,n=m+1:=⟨n - 1,by omega⟩
   unfold DR at d;cases ha:w.agg with
   | true=>
    rw [ha] at d;obtain ⟨cs,rfl,hn⟩:=d;show (ZbN (frz (n+1)) S cs).ob _=_;rw [ZhL n w y hn,Zap];unfold Ty.enc;rw [ha]
   | false=>
    rw [ha] at d;have:=ZhL (n+1) (S:=S) w y d;simp only [ZbN,Zaa,injEq,Prod.mk.injEq] at this;obtain ⟨⟨v1,S1⟩,e1,⟨v2,S2'⟩,e2,e3,e4⟩:=this;cases e2;dsimp only at e3 e4;subst e4;rw [e1];unfold Ty.enc;rw [ha,<-e3];rfl
  case nsl z w y=>
   split at h
   ·simp only [Zaa,injEq,Prod.mk.injEq] at h;obtain ⟨y',hy,rfl,rfl⟩:=h;obtain ⟨e2,hy⟩:=Za1 hy;subst e2;subst hy;obtain ⟨h1,h2⟩:=hv.nsl_inv;cases z
    ·rw [(h2 rfl).2];exact ⟨S,rfl,rfl,R⟩
    ·obtain ⟨e1,e2⟩:=h1 rfl;subst e1;subst e2;exact ⟨S,rfl,rfl,R⟩
   ·cases h
  case nils=>
   split at h
   ·cases h;cases hv;exact ⟨S,rfl,rfl,R⟩
   ·cases h
  case sl c=>
   split at h
   ·rename_i t;simp only [Zaa] at h;obtain ⟨ck,h1,h⟩:=h;cases ck<;>(try dsimp only at h)<;>try (cases h;done)
    case own w l wr=>
     rw [Zak,Zah] at h;obtain ⟨hn,h⟩:=h;simp only [Zaa,injEq,Prod.mk.injEq] at h;obtain ⟨y',hy,rfl,rfl⟩:=h;obtain ⟨e2,hy⟩:=Za1 hy;subst e2;subst hy;obtain ⟨n,rfl⟩:∃ m,n=m+1:=⟨n - 1,by omega⟩
     cases hv with | sl hc hone=>
     rcases (R.chunks _ _ h1).2 with ⟨hl,hv⟩ | ⟨hw,hv⟩ | ⟨q,o,cap,cs,pre,post,hv,hs⟩
     ·subst hl;rw [hv];exact ⟨S,rfl,rfl,R.lock h1 rfl (h':=S.heap) (fun _=>.inl rfl)⟩
     ·rw [hv];exact ⟨S,rfl,rfl,R.lock h1 rfl (h':=S.heap) (fun _=>.inl rfl)⟩
     ·rw [hv];exact ZsH (S1:=S) (S2':=S) hs.blk.rd (Zdv (n:=l.length * w.size) hs.off (by rw [hs.nr.length,Zd5]))
       (fun h' hh=>⟨_,Zkd n l hs.nr,rfl,R.lockQ h1 rfl hs.fp hh⟩)
    case own2 w l e'=>
     rw [Zak,Bool.and_eq_true,Zah] at h;obtain ⟨⟨hn,he⟩,h⟩:=h;simp only [Zaa,injEq,Prod.mk.injEq] at h;obtain ⟨y',hy,rfl,rfl⟩:=h;obtain ⟨e2,hy⟩:=Za1 hy;subst e2;subst hy;obtain ⟨n,rfl⟩:∃ m,n=m+2:=⟨n - 2,by omega⟩
     have he:e'=none:=by simpa using he
     subst he;cases hv with | sl hc hone=>
     rcases (R.chunks _ _ h1).2 with ⟨hl,hv⟩ | ⟨q,o,cap,cs,pre,post,hv,hq,hb,ho,hl,_,fps,k1,k2,k3⟩
     ·subst hl;rw [hv];exact ⟨S,rfl,rfl,R.del c⟩
     ·rw [hv];obtain ⟨h',g1,g2⟩:=ZlZ n k2 l cs 0 ⟨S.heap.put q (.ice (pre++(cs++post))),S.next⟩ hl (fun i x hx=>by
       obtain ⟨c,m1,m2⟩:=k3 i x hx (by simp);exact ⟨c,m1,.inl (by rw [Nat.zero_add];exact m2.mono (fun _ h=>h) (fun n hn=>by show (S.heap.put q _).get n=_;rw [Tr.get_put,if_neg (k1 i n hn).2]))⟩)
      refine ⟨⟨h',S.next⟩,?_,rfl,(R.del c).heap (Dn:=fp c) ?_ (le_refl _) ?_ (fun m hd=>⟨R.dex c _ h1 m hd,R.dro c _ h1 rfl m hd⟩)⟩
      ·show (S.heap.get q).ob _=_;rw [hb,Zap];show (sub (pre++(cs++post)) o (l.length * 1)).ob _=_;rw [Zdv (n:=l.length * 1) ho (by omega),Zap];show (ZbN (frz (n+2)) ⟨S.heap.put q (.ice (pre++(cs++post))),S.next⟩ cs).ob _=_;rw [g1,Zap];rfl
      ·intro m _ hm;rcases g2 m with e | ⟨⟨i,_,hi⟩,_⟩
       ·rw [show (⟨h',S.next⟩:St).heap.get m=h'.get m from rfl,e];show (S.heap.put q _).get m=_;rw [Tr.get_put,if_neg (fun e=>hm (by rw [e];exact hq))]
       ·exact absurd (k1 i m hi).1 hm
      ·intro c' k hk m hm hd;have hk:(s.H.del c).get c'=some k:=hk;rw [Tr.get_del] at hk;split at hk
       ·cases hk
       ·exact R.dis c' c k _ hk h1 (by assumption) (.inr rfl) m hm hd
    case mix w l e'=>
     rw [Zak,Bool.and_eq_true,Zah,Bool.not_eq_true'] at h;obtain ⟨⟨hn,hec⟩,h⟩:=h;simp only [Zaa] at h;obtain ⟨dk,h4,h⟩:=h;split at h
     ·rename_i w' m;simp only [Zaa,injEq,Prod.mk.injEq] at h;obtain ⟨m',hm,y',hy,rfl,rfl⟩:=h;obtain ⟨e3,hm⟩:=Za1 hm;subst e3;subst hm;obtain ⟨e2,hy⟩:=Za1 hy;subst e2;subst hy;obtain ⟨n,rfl⟩:∃ m,n=m+2:=⟨n - 2,by omega⟩
      obtain ⟨ei,d⟩:=e';dsimp only at h4 hec;have hcd:d≠c:=fun e=>by rw [Zad.2 e] at hec;cases hec
      cases hv with | sl hc hone=>
      obtain ⟨⟨he0,hel⟩,q,o,cap,cs,pre,post,hv,hq,hb,ho,hl,hd,_,k1,k2⟩:=R.chunks _ _ h1;dsimp only at he0 hel hd k1 k2;have m2:Znx S.heap (fp d) (a d) w' m true:=R.chunks _ _ h4;have hdis:∀ n,fp d n->¬ fp c n:=fun n hn=>R.dis d c _ _ h4 h1 hcd (.inl rfl) n hn;have hsl:(Zaq l ei m).length=l.length:=by simp [Zaq]
      rw [hv];obtain ⟨h',g1,g2⟩:=ZlZ (fps:=fun i n=>i=ei.toNat/\fp d n) n (fun i i' n hne h1 h2=>hne (h1.1.trans h2.1.symm)) (Zaq l ei m) cs 0 ⟨S.heap.put q (.ice (pre++(cs++post))),S.next⟩ (by rw [hl,hsl]) (fun i x hx=>by
       unfold Zaq at hx;rw [List.getElem?_set] at hx;by_cases hi:ei.toNat=i
       ·rw [if_pos hi,if_pos (by omega)] at hx;cases hx;refine ⟨a d,by rw [<-hi];exact k1,.inl (m2.mono (fun n hn=>⟨by omega,hn⟩) (fun n hn=>?_))⟩;show (S.heap.put q _).get n=_;rw [Tr.get_put,if_neg (fun e=>hdis n hn (by rw [e];exact hq))]
       ·rw [if_neg hi] at hx;obtain ⟨c',e1,e2⟩:=k2 i x hx (by omega);exact ⟨c',e1,.inr e2⟩)
      refine ⟨⟨h',S.next⟩,?_,rfl,((R.del c).del d).heap (Dn:=fun n=>fp c n\/fp d n) ?_ (le_refl _) ?_ (fun m hd=>⟨fun he=>hd.elim (fun h=>R.dex c _ h1 m h he) (fun h=>R.dex d _ h4 m h he),fun he=>hd.elim (fun h=>R.dro c _ h1 rfl m h he) (fun h=>R.dro d _ h4 rfl m h he)⟩)⟩
      ·show (S.heap.get q).ob _=_;rw [hb,Zap];show (sub (pre++(cs++post)) o (l.length * 1)).ob _=_;rw [Zdv (n:=l.length * 1) ho (by omega),Zap];show (ZbN (frz (n+2)) ⟨S.heap.put q (.ice (pre++(cs++post))),S.next⟩ cs).ob _=_;rw [g1,Zap,Zr2,hsl]
      ·intro m _ hm;rcases g2 m with e | ⟨⟨i,_,hi⟩,_⟩
       ·rw [show (⟨h',S.next⟩:St).heap.get m=h'.get m from rfl,e];show (S.heap.put q _).get m=_;rw [Tr.get_put,if_neg (fun e=>hm (.inl (by rw [e];exact hq)))]
       ·exact absurd (.inr hi.2) hm
      ·intro c' k hk m hm hd;have hk:((s.H.del c).del d).get c'=some k:=hk;rw [Tr.get_del] at hk;split at hk
       ·cases hk
       ·rename_i n1;rw [Tr.get_del] at hk;split at hk
        ·cases hk
        ·rename_i n2;rcases hd with hd | hd
         ·exact R.dis c' c k _ hk h1 n2 (.inr rfl) m hm hd
         ·exact R.dis c' d k _ hk h4 n1 (.inr rfl) m hm hd
     ·cases h
    case lit w m l wr=>
     rw [Zak,Zah] at h;obtain ⟨hn,h⟩:=h;simp only [Zaa,injEq,Prod.mk.injEq] at h;obtain ⟨⟨xs,H1⟩,h2,y',hy,rfl,rfl⟩:=h;obtain ⟨e2,hy⟩:=Za1 hy;subst e2;subst hy;cases hv with | sl hc hone=>
     obtain ⟨q,cs,hv,hq,hb,hvs,hlen⟩:=R.chunks _ _ h1;rw [hv];have hsub:sub cs 0 (m * w.size)=some cs:=by
      have:=Zdv (l:=[]) (c:=cs) (r:=[]) (o:=0) (n:=m * w.size) rfl (by rw [hvs.length,hlen]);simpa using this
     have key:=ZsH (F:=F) (a:=a) (fp:=fp) (s:=⟨s.T,H1,s.nx⟩) (T:=T) (S:=S) (n:=n) (cap:=some m) (len:=m) (cs:=xs.flatMap w.cells) (S1:=S) (S2':=S) hb.rd hsub (fun h' hh=>by
      obtain ⟨S',e1,e2,_,R'⟩:=ZlY (ZdN n) w m (R.lockQ h1 rfl hq hh) h2 (cs:=cs) hvs;exact ⟨S',e1,e2,R'⟩)
     have hxl:xs.length=m:=by
      obtain ⟨S',e1,e2,e3,R'⟩:=ZlY (ZdN n) w m (R.lockQ h1 rfl hq (h':=S.heap) (fun _=>.inl rfl)) h2 (cs:=cs) hvs;exact e3
     rw [Zr2,hxl];exact key
   ·cases h
  case bx c off=>
   split at h
   ·rename_i t;rw [Zak,Zad] at h;obtain ⟨rfl,h⟩:=h;simp only [Zaa] at h;obtain ⟨ck,h1,h⟩:=h;cases ck<;>(try dsimp only at h)<;>try (cases h;done)
    rename_i l w;simp only [Zaa,injEq,Prod.mk.injEq] at h;obtain ⟨⟨x1,H1⟩,h2,rfl,rfl⟩:=h;cases hv with | bx hc hb=>
    obtain ⟨q,cs,hv,hq,hbk,hvs,_⟩:=R.chunks _ _ h1;rw [hb] at hv;cases hv;exact ZsI hbk.rd (fun h' hh=>ZlX (ZdN n) t (R.lockQ h1 rfl hq hh) h2 hvs)
   ·rename_i t;rw [Zak,Zad] at h;obtain ⟨rfl,h⟩:=h;simp only [Zaa] at h;obtain ⟨ck,h1,h⟩:=h;cases ck<;>(try dsimp only at h)<;>try (cases h;done)
    rename_i l w;simp only [Zaa,injEq,Prod.mk.injEq] at h;obtain ⟨⟨x1,H1⟩,h2,rfl,rfl⟩:=h;cases hv with | bx hc hb=>
    obtain ⟨q,cs,hv,hq,hbk,hvs,_⟩:=R.chunks _ _ h1;rw [hb] at hv;cases hv;exact ZsI hbk.rd (fun h' hh=>ZlX (ZdN n) t (R.lockQ h1 rfl hq hh) h2 hvs)
   ·cases h
  case nilp=>
   split at h
   ·cases h;cases hv;exact ⟨S,rfl,rfl,R⟩
   ·cases h
  case agg l=>
   split at h
   ·rename_i t;cases hv with | agg hl=>
    rename_i cs;obtain ⟨S',e1,e2,R'⟩:=ZlX (ZdN n) t R h hl;refine ⟨S',?_,e2,R'⟩;show (ZbN (frz n) S cs).ob _=_;rw [e1,Zap];rfl
   ·cases h
theorem Zma {n:Nat} {g:FzT} (G:Z0c n g):∀ (ts:List Ty) {s:S2} {S:St},Rel F a fp s T S->∀ {vs:List V2} {x:Zfj ts} {H':Tr C2},fzL g ts vs s.H=some (x,H')->∀ {us:List AV},Zbl s.nx a vs us ->
 ∃ S',ZbN (frz n) S us=some (Zjm ts x,S')/\S'.next=S.next/\Rel F a fp ⟨s.T,H',s.nx⟩ T S'
 | [],s,S,R,vs,x,H',h,us,hv=>by
  cases vs with
  | nil=>cases h;cases hv;exact ⟨S,rfl,rfl,R⟩
  | cons=>cases h
 | [t],s,S,R,vs,x,H',h,us,hv=>by
  match vs,h with
  | [v],h=>
   cases hv with | cons h1 h2=>
   cases h2;obtain ⟨S',e1,e2,R'⟩:=G F a fp s T S R t v x H' h _ h1;exact ⟨S',by simp only [ZbN,e1,Zap];rfl,e2,R'⟩
  | [],h=>cases h
  | _::_::_,h=>cases h
 | t::u::ts,s,S,R,vs,x,H',h,us,hv=>by
  match vs,h with
  | v::vs,h=>
   simp only [fzL,Zaa,injEq] at h;obtain ⟨⟨x1,H1⟩,h1,⟨x2,H2⟩,h2,h⟩:=h;cases h;cases hv with | cons v1 v2=>
   obtain ⟨S1,e1,n1,R1⟩:=G F a fp s T S R t v x1 H1 h1 _ v1;obtain ⟨S2',e2,n2,R2⟩:=Zma G (u::ts) R1 h2 v2;exact ⟨S2',by simp only [ZbN,e1,Zap,e2];rfl,by rw [n2,n1],R2⟩
  | [],h=>cases h
def IOk (K:ZcY) (g:FuncId) (sp:Zbc):Prop:=∀ (F:Fr) (a:Nat->AV) (fp:Nat->Nat->Prop) (us:List AV) (S:St) (x:sp.inSh.den) (y:sp.outSh.den),Rel F a fp (emb sp.inSh ⟨.lf,.lf,0⟩ x) (ZcP us 0) S->us.length=sp.ins.length->sp.f x=some y ->
 ∃ ws S' a' fp',K g us S=some (ZqE ws,S')/\ws.length=sp.outs.length/\S.next<=S'.next/\Rel F a' fp' (emb sp.outSh ⟨.lf,.lf,0⟩ y) (ZcP (ws++sp.anc.map fun q=>us.getD q.1 .nils) 0) S'
structure KOk (E:Zcn) (K:ZcY):Prop where
 imp:∀ g vs sp,E.pol g=false->E.im g vs=some sp->sp.ok=true/\sp.inSh.ok=true/\sp.outSh.ok=true/\IOk K g sp
 pure:∀ g sp,E.pol g=true->E.sp g=some sp->(sp.cod.all fun t=>!t.isProd)=true->∀ x r,sp.f x=some r->∀ args S S1,ZbN (frz 1000) S args=some (Zjm sp.dom x,S1)->K g args S=some (ZvU sp.cod r,bif ZlO sp.cod||(E.ln g&&ZFS sp.cod) then S else S1)
 eff:∀ g,E.pol g=true->∀ args S u S',K g args S=some (u,S')->S'.next=S.next/\∀ m,rdB (S'.heap.get m)=rdB (S.heap.get m)
theorem DR.enc' {t:Ty} (x:t.den) (h:t.isProd=false):DR t x (t.enc x):=by
 refine DR.enc t x ?_;cases t<;>first | exact .inl rfl | exact .inr rfl | cases h
theorem ZgH {m:Nat}:∀ (ts:List Ty) (x:Zfj ts),(ts.all fun t=>!t.isProd)=true->Zbl m a ((Zc9 ts x).map fun d=>V2.dat d.1 d.2) (Zjm ts x)
 | [],_,_=>.nil
 | [t],x,h=>by
  simp only [List.all_cons,List.all_nil,Bool.and_true,Bool.not_eq_true'] at h;exact .cons (.dat (DR.enc' x h)) .nil
 | t::u::ts,x,h=>by
  rw [List.all_cons,Bool.and_eq_true,Bool.not_eq_true'] at h;exact .cons (.dat (DR.enc' x.1 h.1)) (ZgH (u::ts) x.2 h.2)
theorem Zlb {m:Nat} (ts:List Ty) (x:Zfj ts) (h:(ts.all fun t=>!t.isProd)=true):VR2 m a (Z1W ts x) (ZvU ts x):=by
 match ts,x,h with
 | [t],x,h=>
  simp only [List.all_cons,List.all_nil,Bool.and_true,Bool.not_eq_true'] at h;exact .dat (DR.enc' x h)
 | [],x,h=>exact .tup (ZgH [] x h)
 | t::u::ts,x,h=>exact .tup (ZgH (t::u::ts) x h)
theorem Zr3 (HK:KOk E K) (R:Rel F a fp s T S) {g:FuncId} {vs:List V2} {us:List AV} (hp:E.pol g=true) (hv:Zbl s.nx a vs us) (h:ZjU E s g vs k=some r):Res F a fp s T S (K g us S) k r:=by
 simp only [ZjU,Zaa,Zak] at h;obtain ⟨sp,h1,hc,⟨x,H'⟩,h2,h⟩:=h;obtain ⟨y,hy,h⟩:=Option.bind_eq_some_iff.1 h;obtain ⟨S1,e1,e2,R1⟩:=Zma (ZdN 1000) sp.dom R h2 hv;have hK:=HK.pure g sp hp h1 hc x y hy us S S1 e1;cases hf:(ZlO sp.cod||(E.ln g&&ZFS sp.cod))
 ·rw [hf] at hK h;exact ⟨_,_,_,a,fp,S1,hK,by rw [e2];exact le_refl _,R1,rfl,Zlb _ _ hc,h,le_refl _,fun _ _=>⟨rfl,fun _=>rfl⟩⟩
 ·rw [hf] at hK h;exact ⟨_,_,_,a,fp,S,hK,le_refl _,R,rfl,Zlb _ _ hc,h,le_refl _,fun _ _=>⟨rfl,fun _=>rfl⟩⟩
end
end Go.Eng
