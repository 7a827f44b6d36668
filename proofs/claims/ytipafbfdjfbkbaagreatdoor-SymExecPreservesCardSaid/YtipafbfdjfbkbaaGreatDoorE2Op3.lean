import Derived.Test.YtipafbfdjfbkbaaGreatDoorE2Op2
set_option linter.unusedSimpArgs false
set_option linter.unusedVariables false
set_option linter.unusedSectionVars false
open Option.some (injEq)
open Nat (le_succ le_refl lt_succ_self succ_mul le_trans)
open Bool (and_eq_true)
open List (length_take length_drop flatMap_cons length_append replicate append_nil)
namespace Go.Eng
theorem ZiB {t:Ty}:∀ (l:List t.den) (n:Nat),(l.flatMap t.cells).take (n * t.size)=(l.take n).flatMap t.cells
 | [],n=>by simp
 | x::l,0=>by simp
 | x::l,n+1=>by
  have e:(n+1) * t.size=(t.cells x).length+n * t.size:=by rw [Ty.cells_len,succ_mul];omega
  rw [flatMap_cons,e,List.take_append,List.take_of_length_le (by omega),Nat.add_sub_cancel_left,ZiB l n];rfl
theorem ZiC {t:Ty}:∀ (l:List t.den) (n:Nat),(l.flatMap t.cells).drop (n * t.size)=(l.drop n).flatMap t.cells
 | [],n=>by simp
 | x::l,0=>by simp
 | x::l,n+1=>by
  have e:(n+1) * t.size=(t.cells x).length+n * t.size:=by rw [Ty.cells_len,succ_mul];omega
  rw [flatMap_cons,e,<-List.drop_drop,List.drop_left' rfl,ZiC l n];rfl
section
variable [Gl] [Mx] {P:Program} {K:ZcY} {E:Zcn} {F:Fr} {a:Nat->AV} {fp:Nat->Nat->Prop} {s s0:S2} {T:Tm} {S S':St} {α:Type} {k:K2 α} {r:α}
theorem ZfH (R:Rel F a fp s T S) {x:Option Operand} {d:Nat} {n:Int} (h:ZnN s x d=some n) (h0:0<=n):bnd T x d=some n.toNat:=by
 cases x with
 | none=>simp only [ZnN,injEq] at h;subst h;simp [bnd]
 | some o=>
  simp only [ZnN,Zaa] at h;obtain ⟨v,h1,h⟩:=h;obtain ⟨c,e1,r1⟩:=Zbd R h1;split at h
  ·cases h;cases r1 with | dat d=>
   have:=DR.int d;subst this;simp only [bnd,e1,Zap,Zh2 h0]
  ·cases h
theorem ZoX {ρ:Nat->Nat->AV} {m:Nat} {h:Tr AB} {fpc:Nat->Prop} {w:Bool} {q o:Nat} {cap:Option Nat} {t:Ty} {l:List t.den} {cs pre post:List AV} (hs:SlR h fpc w q o cap l.length t.size (l.flatMap t.cells) cs pre post) {i j:Nat} (hij:i<=j) (hj:j<=l.length) {w':Bool} (hw:w'=false\/(i=0/\w'=w)) :
 ∃ v',Zil q o l.length t.size i j cap=some v'/\Zcr ρ m a h fpc v' (.own t ((l.drop i).take (j - i)) w'):=by
 have hlen:cs.length=l.length * t.size:=by rw [hs.nr.length,Zd5]
 have hsplit:cs=cs.take (i * t.size)++(((cs.drop (i * t.size)).take ((j - i) * t.size))++(cs.drop (i * t.size)).drop ((j - i) * t.size)):=by
  rw [List.take_append_drop,List.take_append_drop]
 have hn2:NRs (((l.drop i).take (j - i)).flatMap t.cells) ((cs.drop (i * t.size)).take ((j - i) * t.size)):=by
  have:=(hs.nr.drop (i * t.size)).take ((j - i) * t.size)
  rwa [ZiC,ZiB] at this
 have hl2:((l.drop i).take (j - i)).length=j - i:=by rw [length_take,length_drop];omega
 have him:i * t.size<=l.length * t.size:=Nat.mul_le_mul_right _ (by omega);have hl1:(cs.take (i * t.size)).length=i * t.size:=by rw [length_take];omega
 have hblk:Blk w' (h.get q) ((pre++cs.take (i * t.size))++(((cs.drop (i * t.size)).take ((j - i) * t.size))++((cs.drop (i * t.size)).drop ((j - i) * t.size)++post))):=by
  have e:pre++(cs++post)=(pre++cs.take (i * t.size))++(((cs.drop (i * t.size)).take ((j - i) * t.size))++((cs.drop (i * t.size)).drop ((j - i) * t.size)++post)):=by
   conv=>lhs;rw [hsplit]
   simp only [List.append_assoc]
  have:=hs.blk;rw [e] at this;rcases hw with rfl | ⟨_,rfl⟩
  ·exact this.rd
  ·exact this
 have mk:∀ cap':Option Nat,(∀ k,cap'=some k->(j - i)<=k/\(w'=true->(o+i * t.size)+k * t.size<=(pre++(cs++post)).length)) ->
  Zcr ρ m a h fpc (.ms q (o+i * t.size) (j - i) cap' t.size) (.own t ((l.drop i).take (j - i)) w'):=by
  intro cap' hc;refine ⟨rfl,.inr (.inr ⟨q,o+i * t.size,cap',_,_,_,by rw [hl2],hs.fp,hblk,by rw [length_append,hs.off,hl1],hn2,?_⟩)⟩;intro k hk;obtain ⟨g1,g2⟩:=hc k hk;refine ⟨by rw [hl2];exact g1,fun hw'=>?_⟩;have:=g2 hw';have e:pre++(cs++post)=(pre++cs.take (i * t.size))++(((cs.drop (i * t.size)).take ((j - i) * t.size))++((cs.drop (i * t.size)).drop ((j - i) * t.size)++post)):=by
   conv=>lhs;rw [hsplit]
   simp only [List.append_assoc]
  rw [<-e];exact this
 cases cap with
 | some c=>
  obtain ⟨g1,g2⟩:=hs.cap c rfl;have hc1:(Nat.ble i j&&Nat.ble j c)=true:=by rw [Zah.2 hij,Zah.2 (by omega)];rfl
  unfold Zil;simp only [hc1,chk,Zag,Zap];cases hb:c.beq i
  ·rw [Zan];refine ⟨_,rfl,mk _ ?_⟩;intro k hk;cases hk;refine ⟨by omega,fun hw'=>?_⟩;have hw2:w=true:=by
    rcases hw with e | ⟨_,e⟩
    ·rw [e] at hw';cases hw'
    ·rw [<-e];exact hw'
   have:=g2 hw2;rw [Nat.sub_mul];have:i * t.size<=c * t.size:=Nat.mul_le_mul_right _ (by omega);omega
  ·rw [Zag];have:=Zad.1 hb;subst this;have e1:j=c:=by omega
   have e2:j - c=0:=by omega
   refine ⟨_,rfl,rfl,.inr (.inr ⟨q,o,_,[],pre,cs++post,by rw [hl2],hs.fp,?_,hs.off,?_,?_⟩)⟩
   ·have:=hs.blk;rcases hw with rfl | ⟨_,rfl⟩
    ·exact this.rd
    ·exact this
   ·rw [e2];simp;exact .nil
   ·intro k hk;cases hk;refine ⟨by rw [hl2];omega,fun hw'=>?_⟩;have:c - c=0:=by omega
    rw [this];simp [hs.off]
 | none=>
  have hc1:(Nat.ble i j&&Nat.ble j l.length)=true:=by rw [Zah.2 hij,Zah.2 hj];rfl
  unfold Zil;simp only [hc1,chk,Zag,Zap];cases hb:i.beq 0
  ·rw [Zan];cases hc:Nat.blt i l.length
   ·rw [Zan];have hil:¬ i < l.length:=fun e=>by rw [Za6.2 e] at hc;cases hc
    have hw0:w'=false:=by
     rcases hw with e | ⟨e,_⟩
     ·exact e
     ·rw [e] at hb;cases hb
    have:(l.drop i).take (j - i)=[]:=List.length_eq_zero_iff.1 (by rw [hl2];omega);refine ⟨_,rfl,rfl,.inr (.inl ⟨hw0,by rw [this];rfl⟩)⟩
   ·rw [Zag];exact ⟨_,rfl,mk _ (fun k hk=>by cases hk)⟩
  ·rw [Zag];have:=Zad.1 hb;subst this;refine ⟨_,rfl,?_⟩;have:=mk none (fun k hk=>by cases hk);simpa using this
theorem Rel.cutA (R:Rel F a fp s T S) {c:Nat} {ck ck':C2} (hc:s.H.get c=some ck) (hw:ck.w=true) {v':AV} (ok:∀ a',Zcr F.pn (s.nx+1) a' S.heap (fp c) v' ck') :
 ∃ a' fp',a' s.nx=v'/\(∀ c,c < s.nx->fp' c=fp c/\a' c=a c)/\Rel F a' fp' ⟨s.T,(s.H.del c).put s.nx ck',s.nx+1⟩ T S:=by
 have R1:=(R.del c).room v';have g:∀ c' k,(s.H.del c).get c'=some k->s.H.get c'=some k/\c'≠c:=by
  intro c' k h;rw [Tr.get_del] at h;split at h
  ·cases h
  ·exact ⟨h,by assumption⟩
 refine ⟨_,_,by simp,fun d hd=>⟨if_neg (by omega),if_neg (by dsimp only;omega)⟩,R1.add (c:=s.nx) (ck:=ck') (Pn:=fp c) (R.del c).none_nx (by show s.nx < s.nx+1;omega) ?_ (fun n hn=>R.lt c ck hc n hn) ?_ (fun n hn=>R.dex c ck hc n hn) (fun _ n hn=>R.dro c ck hc hw n hn)⟩
 ·simp only [if_true];exact ok _
 ·intro c' k h _ n hn hf;exact R.dis c' c k ck (g c' k h).1 hc (g c' k h).2 (.inr hw) n hf hn
theorem Rel.cutB (R:Rel F a fp s T S) {c:Nat} {ck ck':C2} (hc:s.H.get c=some ck) (hm:ck.isMap=false) (hw:ck'.w=false) {v':AV} (ok:∀ a',Zcr F.pn (s.nx+1) a' S.heap (fp c) v' ck') :
 ∃ a' fp',a' s.nx=v'/\(∀ c,c < s.nx->fp' c=fp c/\a' c=a c)/\Rel F a' fp' ⟨s.T,(s.H.put c ck.ro).put s.nx ck',s.nx+1⟩ T S:=by
 have R0:=R.lock hc hm (h':=S.heap) (fun n=>.inl rfl);have R1:=R0.room v';have hnc:c≠s.nx:=by have:=R.nx c ck hc;omega
 have hcc:(s.H.put c ck.ro).get c=some ck.ro:=by rw [Tr.get_put,if_pos rfl]
 refine ⟨_,_,by simp,fun d hd=>⟨if_neg (by omega),if_neg (by dsimp only;omega)⟩,R1.add (c:=s.nx) (ck:=ck') (Pn:=fp c) R0.none_nx (by show s.nx < s.nx+1;omega) ?_ (fun n hn=>R.lt c ck hc n hn) ?_ (fun n hn=>R.dex c ck hc n hn) (fun h n hn=>by rw [hw] at h;cases h)⟩
 ·simp only [if_true];exact ok _
 ·intro c' k h hw' n hn hf;have hkw:k.w=true:=hw'.resolve_left (by rw [hw];simp);by_cases e:c'=c
  ·subst e;rw [show (s.H.put c' ck.ro).get c'=some ck.ro from hcc] at h;cases h;rw [C2.ro_w hm] at hkw;cases hkw
  ·exact R0.dis c' c k ck.ro h hcc e (.inl hkw) n hf hn
theorem ZoY (H:TyR P E) (R:Rel F a fp s T S) {t:TypeId} {x:Operand} {lo hi mx:Option Operand} {p:V2} (h1:ev2 s x=some p) (h:ZoG E s t p lo hi mx k=some r):Res F a fp s T S (opK P K (.slice t x lo hi mx) T S) k r:=by
 simp only [ZoG,Zaa,Zak] at h;obtain ⟨hmx,u,h2,h⟩:=h;obtain ⟨c,e1,r1⟩:=Zbd R h1;obtain ⟨e,he,ok⟩:=H.ok _ _ h2;have ho:opK P K (.slice t x lo hi mx) T S=(Zcu P T t c lo hi mx).ob fun v=>some (v,S):=by simp only [opK,aOp,e1,Zap]
 rw [ho];cases u<;>(try dsimp only at h)<;>try (cases h;done)
 case str=>
  cases p<;>(try dsimp only at h)<;>try (cases h;done)
  rename_i w b;cases w<;>(try dsimp only at h)<;>try (cases h;done)
  simp only [Zaa] at h;obtain ⟨l,hl,j,hj,h⟩:=h;rw [Zbm (x:=r)] at h;obtain ⟨g0,g1,g2⟩:=of_decide_eq_true h.1;cases r1 with | dat d=>
  have:=DR.str d;subst this;have b1:=ZfH R (d:=0) hl g0;have b2:=ZfH R (d:=b.size) hj (by omega);refine Zi7 R ?_ h.2;have hc:(Nat.ble l.toNat j.toNat&&Nat.ble j.toNat b.size)=true:=by rw [Zah.2 (by omega),Zah.2 (by omega)];rfl
  simp only [Zcu,hmx,chk,Zag,Zap,he,ZcT ok.und,b1,b2,hc,slB]
 case list u=>
  obtain ⟨e',el,g,he',hu,hg,_,okg⟩:=Zn0 H h2;rw [he] at he';cases he';cases p<;>(try dsimp only at h)<;>try (cases h;done)
  case dat w l=>
   cases w<;>(try dsimp only at h)<;>try (cases h;done)
   rename_i w;simp only [Zaa] at h;obtain ⟨l',hl',i,hi',j,hj',h⟩:=h;obtain ⟨e3,hl'⟩:=Za1 hl';subst e3;subst hl';rw [Zbm (x:=r)] at h;obtain ⟨g0,g1,g2⟩:=of_decide_eq_true h.1;dsimp only at g2 hj' h;have b1:=ZfH R (d:=0) hi' g0;have b2:=ZfH R (d:=List.length l) hj' (by omega);have hc:(Nat.ble i.toNat j.toNat&&Nat.ble j.toNat (List.length l))=true:=by rw [Zah.2 (by omega),Zah.2 (by omega)];rfl
   cases r1 with | dat d=>
   rcases DR.list d with hv | ⟨hl,hv⟩
   ·subst hv;refine Res.val R (u:=.fs ((slI l i j).flatMap w.cells) (slI l i j).length) ?_ (.dat (.mklist _ _)) h.2;have e5:(slI l i j).length=j.toNat - i.toNat:=by
     unfold slI;rw [length_take,length_drop];have:j.toNat<=List.length l:=by omega
     omega
    simp only [Zcu,hmx,chk,Zag,Zap,he,hu,hg,b1,b2,hc,okg.size,ZiC,ZiB,e5];rfl
   ·subst hv;subst hl;have hz:i.toNat=0/\j.toNat=0:=by simp at g2;omega
    have hsl:slI ([]:List w.den) i j=[]:=by simp [slI]
    rw [hsl] at h;refine Res.val R (u:=.nils) ?_ (.dat d) h.2;simp only [List.length_nil] at b2;simp only [Zcu,hmx,chk,Zag,Zap,he,hu,hg,b1,b2,hz.1,hz.2];rfl
  case sl c0=>
   simp only [Zaa] at h;obtain ⟨ck,h4,h⟩:=h;cases ck<;>(try dsimp only at h)<;>try (cases h;done)
   rename_i w l wr;simp only [Zaa] at h;obtain ⟨l',hl',i,hi',j,hj',h⟩:=h;obtain ⟨e3,hl'⟩:=Za1 hl';subst e3;subst hl';rw [Zbm (x:=r)] at h;obtain ⟨g0,g1,g2⟩:=of_decide_eq_true h.1;dsimp only at g2 hj' h;have b1:=ZfH R (d:=0) hi' g0;have b2:=ZfH R (d:=List.length l) hj' (by omega);have hjl:j.toNat<=List.length l:=by omega
   cases r1 with | sl hc0 hone=>
   -- the value
   have key:∀ w',(w'=false\/(i=0/\w'=wr))->∃ v',Zcu P T t (a c0) lo hi mx=some v'/\v'.one=true/\∀ m a',Zcr F.pn m a' S.heap (fp c0) v' (.own w (slI l i j) w'):=by
    intro w' hw';rcases (R.chunks _ _ h4).2 with ⟨hl,hv⟩ | ⟨hw,hv⟩ | ⟨q,o,cap,cs,pre,post,hv,hs⟩
    ·subst hl;have hz:i.toNat=0/\j.toNat=0:=by simp at g2;omega
     refine ⟨.nils,?_,rfl,fun m a'=>⟨rfl,.inl ⟨by simp [slI],rfl⟩⟩⟩;simp only [List.length_nil] at b2;simp only [Zcu,hmx,chk,Zag,Zap,he,hu,hg,b1,b2,hz.1,hz.2,hv];rfl
    ·have hw0:w'=false:=by rcases hw' with e | ⟨_,e⟩<;>rw [e];exact hw
     have hc:(Nat.ble i.toNat j.toNat&&Nat.ble j.toNat (List.length l))=true:=by rw [Zah.2 (by omega),Zah.2 (by omega)];rfl
     have e5:(slI l i j).length=j.toNat - i.toNat:=by unfold slI;rw [length_take,length_drop];omega
     refine ⟨.fs ((slI l i j).flatMap w.cells) (slI l i j).length,?_,rfl,fun m a'=>⟨rfl,.inr (.inl ⟨hw0,rfl⟩)⟩⟩;simp only [Zcu,hmx,chk,Zag,Zap,he,hu,hg,b1,b2,hc,okg.size,ZiC,ZiB,e5,hv];rfl
    ·obtain ⟨v',k1,_⟩:=ZoX (ρ:=F.pn) (m:=0) (a:=a) hs (i:=i.toNat) (j:=j.toNat) (by omega) hjl (w':=w') (hw'.imp id (fun e=>⟨by rw [e.1];rfl,e.2⟩));refine ⟨v',?_,?_,fun m a'=>?_⟩
     ·have hz:g.size.beq w.size=true:=Zad.2 okg.size;simp only [Zcu,hmx,chk,Zag,Zap,he,hu,hg,b1,b2,hz,hv,k1]
     ·obtain ⟨v2,k2,k3⟩:=ZoX (ρ:=F.pn) (m:=0) (a:=a) hs (i:=i.toNat) (j:=j.toNat) (by omega) hjl (w':=w') (hw'.imp id (fun e=>⟨by rw [e.1];rfl,e.2⟩));rw [k1] at k2;cases k2;exact k3.1
     ·obtain ⟨v2,k2,k3⟩:=ZoX (ρ:=F.pn) (m:=m) (a:=a') hs (i:=i.toNat) (j:=j.toNat) (by omega) hjl (w':=w') (hw'.imp id (fun e=>⟨by rw [e.1];rfl,e.2⟩));rw [k1] at k2;cases k2;exact k3
   obtain ⟨hd,h⟩:=h;cases hb:(lo.isNone&&wr)<;>rw [hb] at h
   ·rw [Zan] at h;obtain ⟨v',k1,k2,k3⟩:=key false (.inl rfl);obtain ⟨a',fp',ha,hfp,R'⟩:=R.cutB h4 rfl (ck':=.own w (slI l i j) false) rfl (v':=v') (fun a'=>k3 _ a');exact ⟨.sl s.nx,v',_,a',fp',S,by rw [k1,Zap],le_refl _,R',rfl,by have:=VR2.sl (m:=s.nx+1) (a:=a') (c:=s.nx) (by omega) (by rw [ha];exact k2);rw [ha] at this;exact this,h,le_succ _,fun c hc=>⟨(hfp c hc).2,fun _=>(hfp c hc).1⟩⟩
   ·rw [Zag] at h;simp only [and_eq_true] at hb;have hi0:i=0:=by
     cases lo with
     | none=>simp only [ZnN,injEq] at hi';exact hi'.symm
     | some _=>cases hb.1
    have hwr:=hb.2;subst hwr;obtain ⟨v',k1,k2,k3⟩:=key true (.inr ⟨hi0,rfl⟩);obtain ⟨a',fp',ha,hfp,R'⟩:=R.cutA h4 rfl (ck':=.own w (slI l i j) true) (v':=v') (fun a'=>k3 _ a');exact ⟨.sl s.nx,v',_,a',fp',S,by rw [k1,Zap],le_refl _,R',rfl,by have:=VR2.sl (m:=s.nx+1) (a:=a') (c:=s.nx) (by omega) (by rw [ha];exact k2);rw [ha] at this;exact this,h,le_succ _,fun c hc=>⟨(hfp c hc).2,fun _=>(hfp c hc).1⟩⟩
theorem Zry (H:TyR P E) (R:Rel F a fp s T S) {t:TypeId} {x:Operand} {hi:Option Operand} {c:Nat} (h1:ev2 s x=some (.ar c)) (h:Zui E s t c hi k=some r):Res F a fp s T S (opK P K (.slice t x none hi none) T S) k r:=by
 simp only [Zui,Zaa] at h;obtain ⟨⟨pt,pn⟩,har,ck,hck,h⟩:=h;obtain ⟨_,e,el,he,hu,hel,_⟩:=H.ar t _ har;dsimp only at hu hel;obtain ⟨g,hg,okg⟩:=H.ok _ _ hel;obtain ⟨u,e1,r1⟩:=Zbd R h1;have hnx:=R.nx _ _ hck;have ho:opK P K (.slice t x none hi none) T S=(Zcu P T t u none hi none).ob fun v=>some (v,S):=by simp only [opK,aOp,e1,Zap]
 rw [ho];cases r1 with | ar hc hac=>
 rename_i q n z;cases ck<;>(try dsimp only at h)<;>try (cases h;done)
 case arr w l=>
  simp only [Zaa,Zak,Zad] at h;obtain ⟨l',hl',hlen,j,hj,h⟩:=h;obtain ⟨e3,hl'⟩:=Za1 hl'
  try dsimp only at e3
  subst e3;subst hl';dsimp only at hlen hj h;rw [Zbm (x:=r)] at h;obtain ⟨g0,g1⟩:=of_decide_eq_true h.1;obtain ⟨q',cs,hv,hq,hb,hnr⟩:=R.chunks _ _ hck;rw [hac] at hv;cases hv;have b2:=ZfH R (d:=pn) hj g0;have hle:j.toNat<=pn:=by omega
  have hsl:Zcu P T t (.pa q (List.length l) w.size) none hi none=some (.ms q 0 j.toNat (some pn) w.size):=by
   have hz0:(bc (pn.beq 0) 0 (0+0 * w.size))=0:=by cases hbq:pn.beq 0<;>simp [bc]
   simp only [Zcu,Option.isNone,chk,Zag,Zap,he,hu,hg,okg.size,Nat.beq_refl,hlen,Bool.and_self,bnd,b2,Zil,Zah.2 hle,Zah.2 (Nat.zero_le _),Nat.sub_zero,hz0]
   first | rfl | (simp only [bnd] at b2;rw [b2];simp only [Zap,Zah.2 hle,Zag];done) | (simp only [bnd] at b2;rw [b2];simp only [Zap,Zah.2 hle,Zag];rfl)
  rw [hsl,Zap];have hne:c≠s.nx:=by omega
  have ha:∀ d,d < s.nx->(fun d=>if d=s.nx then AV.ms q 0 j.toNat (some pn) w.size else a d) d=a d:=fun d hd=>if_neg (by omega);have gg:∀ d k,((s.H.put c (.lnk s.nx j pn w.size)).put s.nx (.own w (slI l 0 j) true)).get d=some k->(d=s.nx/\k=.own w (slI l 0 j) true)\/(d≠s.nx/\d=c/\k=.lnk s.nx j pn w.size)\/(d≠s.nx/\d≠c/\s.H.get d=some k):=by
   intro d k hk;rw [Tr.get_put] at hk;split at hk
   ·cases hk;exact .inl ⟨by assumption,rfl⟩
   ·rw [Tr.get_put] at hk;split at hk
    ·cases hk;exact .inr (.inl ⟨by assumption,by assumption,rfl⟩)
    ·exact .inr (.inr ⟨by assumption,by assumption,hk⟩)
  let fp3:Nat->Nat->Prop:=fun d n=>if d=s.nx then fp c n else if d=c then False else fp d n
  have f1:fp3 s.nx=fp c:=by funext n;exact if_pos rfl
  have f2:∀ n,¬ fp3 c n:=fun n hh=>by
   have:(if c=s.nx then fp c n else if c=c then False else fp c n):=hh;rw [if_neg hne,if_pos rfl] at this;exact this
  have f3:∀ d,d≠s.nx->d≠c->fp3 d=fp d:=fun d h1 h2=>by funext n;show (if d=s.nx then _ else _)=_;rw [if_neg h1,if_neg h2]
  have low:∀ d k,((s.H.put c (.lnk s.nx j pn w.size)).put s.nx (.own w (slI l 0 j) true)).get d=some k->∀ n,fp3 d n->∃ d0 k0,s.H.get d0=some k0/\(k.w=true->k0.w=true)/\fp d0 n:=by
   intro d k hk n hn;rcases gg d k hk with ⟨rfl,rfl⟩ | ⟨_,rfl,rfl⟩ | ⟨n1,n2,hk⟩
   ·exact ⟨c,_,hck,fun _=>rfl,by rw [f1] at hn;exact hn⟩
   ·exact absurd hn (f2 n)
   ·exact ⟨d,k,hk,fun h=>h,by rw [f3 d n1 n2] at hn;exact hn⟩
  have e5:(slI l 0 j).length=j.toNat:=by
   unfold slI;rw [length_take,length_drop];simp;omega
  have hsplit:∃ c1 c2,cs=[]++(c1++c2)/\NRs ((slI l 0 j).flatMap w.cells) c1:=by
   have e6:l=slI l 0 j++l.drop j.toNat:=by unfold slI;simp
   have hn2:=hnr;rw [e6,List.flatMap_append] at hn2;obtain ⟨b,d,rfl,m1,m2⟩:=NRs.split hn2;exact ⟨b,d,rfl,m1⟩
  obtain ⟨c1,c2,hcs,hn1⟩:=hsplit;refine ⟨.sl s.nx,_,⟨s.T,(s.H.put c (.lnk s.nx j pn w.size)).put s.nx (.own w (slI l 0 j) true),s.nx+1⟩,fun d=>if d=s.nx then .ms q 0 j.toNat (some pn) w.size else a d,fp3,S,rfl,le_refl _,{ slots:=?_,chunks:=?_,dis:=?_,lt:=?_,nx:=?_,fex:=R.fex,fro:=R.fro,dex:=?_,dro:=?_ },rfl,?_,h.2,le_succ _,fun d hd=>⟨ha d hd,fun hnone=>f3 d (by omega) (fun e=>by rw [e,hck] at hnone;cases hnone)⟩⟩
  ·intro k v hk;obtain ⟨u,h1,h2⟩:=R.slots k v hk;exact ⟨u,h1,h2.mono (le_succ _) ha⟩
  ·intro d k hk;rcases gg d k hk with ⟨rfl,rfl⟩ | ⟨n1,rfl,rfl⟩ | ⟨n1,n2,hk⟩
   ·rw [f1];show Znx S.heap (fp c) (if s.nx=s.nx then AV.ms q 0 j.toNat (some pn) w.size else _) w (slI l 0 j) true;rw [if_pos rfl];refine ⟨rfl,.inr (.inr ⟨q,0,some pn,c1,[],c2,by rw [e5],hq,by rw [hb,hcs];rfl,rfl,hn1,fun k hk=>?_⟩)⟩;cases hk;refine ⟨by rw [e5];exact hle,fun _=>?_⟩;rw [<-hcs,hnr.length,Zd5,<-hlen];simp
   ·show Zcr F.pn (s.nx+1) _ S.heap _ (if _=s.nx then _ else a _) _;rw [if_neg n1,hac];exact ⟨q,by rw [hlen],lt_succ_self _,by show (if s.nx=s.nx then _ else _)=_;rw [if_pos rfl],g0,hle⟩
   ·rw [f3 d n1 n2];show Zcr F.pn (s.nx+1) _ S.heap (fp d) (if d=s.nx then _ else a d) k;rw [if_neg n1];exact (R.chunks d k hk).mono (le_succ _) ha (fun _ _=>rfl)
  ·intro d d' kd kd' hk hk' hne' hw n hf hf';replace hk:=gg d kd hk;replace hk':=gg d' kd' hk';rcases hk with ⟨rfl,rfl⟩ | ⟨n1,rfl,rfl⟩ | ⟨n1,n2,hk⟩<;>rcases hk' with ⟨rfl,rfl⟩ | ⟨n1',rfl,rfl⟩ | ⟨n1',n2',hk'⟩
   ·exact hne' rfl
   ·exact f2 n hf'
   ·rw [f1] at hf;rw [f3 _ n1' n2'] at hf';exact R.dis c d' _ kd' hck hk' (fun e=>n2' e.symm) (.inl rfl) n hf hf'
   ·exact f2 n hf
   ·exact hne' rfl
   ·exact f2 n hf
   ·rw [f1] at hf';rw [f3 _ n1 n2] at hf;exact R.dis d c kd _ hk hck n2 (.inr rfl) n hf hf'
   ·exact f2 n hf'
   ·rw [f3 _ n1 n2] at hf;rw [f3 _ n1' n2'] at hf';exact R.dis d d' kd kd' hk hk' hne' hw n hf hf'
  ·intro d k hk n hn;obtain ⟨d0,k0,p1,_,p3⟩:=low d k hk n hn;exact R.lt d0 k0 p1 n p3
  ·intro d k hk;show d < s.nx+1;rcases gg d k hk with ⟨rfl,_⟩ | ⟨_,rfl,_⟩ | ⟨_,_,hk⟩
   ·omega
   ·omega
   ·have:=R.nx d k hk;omega
  ·intro d k hk n hn;obtain ⟨d0,k0,p1,_,p3⟩:=low d k hk n hn;exact R.dex d0 k0 p1 n p3
  ·intro d k hk hw n hn;obtain ⟨d0,k0,p1,p2,p3⟩:=low d k hk n hn;exact R.dro d0 k0 p1 (p2 hw) n p3
  ·have:VR2 (s.nx+1) (fun d=>if d=s.nx then AV.ms q 0 j.toNat (some pn) w.size else a d) (.sl s.nx) ((fun d=>if d=s.nx then AV.ms q 0 j.toNat (some pn) w.size else a d) s.nx):=.sl (lt_succ_self _) (by show (if s.nx=s.nx then AV.ms q 0 j.toNat (some pn) w.size else _).one=true;rw [if_pos rfl];rfl);simpa using this
 case lnk d h0 n' z'=>
  simp only [Zaa,Zak,and_eq_true,Zad] at h;obtain ⟨⟨hn,hz⟩,j,hj,h⟩:=h;rw [Zbm (x:=r)] at h;have hjh:=of_decide_eq_true h.1;subst hjh;obtain ⟨q',hv,hd,had,g0,hle⟩:=R.chunks _ _ hck;rw [hac] at hv;cases hv
  try dsimp only at hn hz hj
  subst hn;subst hz;have b2:=ZfH R (d:=n) hj g0;have hsl:Zcu P T t (.pa q n pt.size) none hi none=some (a d):=by
   rw [had];have hz0:(bc (n.beq 0) 0 (0+0 * pt.size))=0:=by cases hbq:n.beq 0<;>simp [bc]
   simp only [Zcu,Option.isNone,chk,Zag,Zap,he,hu,hg,okg.size,Nat.beq_refl,Bool.and_self,bnd,b2,Zil,Zah.2 hle,Zah.2 (Nat.zero_le _),Nat.sub_zero,hz0]
   first | rfl | (simp only [bnd] at b2;rw [b2];simp only [Zap,Zah.2 hle,Zag];done) | (simp only [bnd] at b2;rw [b2];simp only [Zap,Zah.2 hle,Zag];rfl)
  rw [hsl,Zap];refine ⟨_,_,s,a,fp,S,rfl,le_refl _,R,rfl,.sl hd (by rw [had];rfl),h.2,le_refl _,fun _ _=>⟨rfl,fun _=>rfl⟩⟩
theorem Zrz (H:TyR P E) (R:Rel F a fp s T S) {t:TypeId} {x:Operand} {lo hi mx:Option Operand} (h:op2 E (.slice t x lo hi mx) s k=some r):Res F a fp s T S (opK P K (.slice t x lo hi mx) T S) k r:=by
 simp only [op2,Zaa] at h;obtain ⟨p,h1,h⟩:=h;unfold ZsB at h;split at h
 ·simp only [Zak,and_eq_true] at h;obtain ⟨⟨hl,hm⟩,h⟩:=h;cases lo with
  | some _=>cases hl
  | none=>cases mx with
   | some _=>cases hm
   | none=>exact Zry H R h1 h
 ·exact ZoY H R h1 h
theorem Rel.newOwn (R:Rel F a fp s T S) {t:Ty} {l:List t.den} {n:Nat} {cap:Option Nat} {cs post:List AV} (hn:n=l.length) (hnr:NRs (l.flatMap t.cells) cs) (hcap:∀ k,cap=some k->l.length<=k/\k * t.size<=(cs++post).length) :
 ∃ a' fp',a' s.nx=.ms S.next 0 n cap t.size/\(∀ c,c < s.nx->a' c=a c)/\(∀ c,c < s.nx->fp' c=fp c)/\Rel F a' fp' ⟨s.T,s.H.put s.nx (.own t l true),s.nx+1⟩ T (ZcW S (.cells (cs++post))):=by
 subst hn;exact R.new (ck:=.own t l true) (b:=.cells (cs++post)) (v:=.ms S.next 0 l.length cap t.size) rfl
  (fun a' ha'=>⟨rfl,.inr (.inr ⟨S.next,0,cap,cs,[],post,rfl,rfl,by rw [Tr.get_put,if_pos rfl];rfl,rfl,hnr,fun k hk=>⟨(hcap k hk).1,fun _=>by have:=(hcap k hk).2;simp at this |-;exact this⟩⟩)⟩)
theorem ZeP (R:Rel F a fp s T S) {x:Option (AV×St)} {a':Nat->AV} {fp':Nat->Nat->Prop} {s':S2} {S':St} {v:AV} {c:Nat} (hx:x=some (v,S')) (hS:S.next<=S'.next) (R':Rel F a' fp' s' T S') (hT:s'.T=s.T) (hc:c < s'.nx) (hv:a' c=v) (ho:v.one=true) (hk:k (.sl c) s'=some r) (hnx:s.nx<=s'.nx) (hfp:∀ c,c < s.nx->fp' c=fp c/\a' c=a c):Res F a fp s T S x k r:=
 ⟨.sl c,v,s',a',fp',S',hx,hS,R',hT,by have:=VR2.sl (m:=s'.nx) (a:=a') hc (by rw [hv];exact ho);rw [hv] at this;exact this,hk,hnx,fun c hc=>⟨(hfp c hc).2,fun _=>(hfp c hc).1⟩⟩
theorem ZoZ {t:Ty} {z:t.den} {zc:List AV} (h:NRs (t.cells z) zc):∀ n,NRs ((replicate n z).flatMap t.cells) (Zhp zc n)
 | 0=>.nil
 | n+1=>by rw [List.replicate_succ,flatMap_cons];exact h.append (ZoZ h n)
theorem ZiD (zc:List AV):∀ n,(Zhp zc n).length=n * zc.length
 | 0=>by simp [Zhp]
 | n+1=>by rw [Zhp,length_append,ZiD zc n,succ_mul];omega
theorem ZlU:∀ n i:Nat,i < n->(Zhp [AV.nils] n)[i]?=some .nils
 | 0,i,h=>by omega
 | n+1,0,_=>rfl
 | n+1,i+1,h=>by
  show (AV.nils::Zhp [AV.nils] n)[i+1]?=_;rw [List.getElem?_cons_succ];exact ZlU n i (by omega)
theorem Rel.newOwn2 (R:Rel F a fp s T S) (t:Ty) (n:Nat):∃ a' fp',a' s.nx=.ms S.next 0 n (some n) 1/\(∀ c,c < s.nx->a' c=a c)/\(∀ c,c < s.nx->fp' c=fp c) /\
 Rel F a' fp' ⟨s.T,s.H.put s.nx (.own2 t (replicate n []) none),s.nx+1⟩ T (ZcW S (.cells (Zhp [.nils] n))):=by
 refine R.new (v:=.ms S.next 0 n (some n) 1) (b:=.cells (Zhp [.nils] n)) rfl (fun a' _=>⟨rfl,.inr ⟨S.next,0,some n,Zhp [.nils] n,[],[],by simp,rfl,?_,rfl,by simp [ZiD],(fun _ _ he=>by cases he),fun _ _=>False,fun _ _ h=>h.elim,fun _ _ _ _ h=>h.elim,fun i x hx _=>⟨.nils,?_,rfl,.inl ⟨?_,rfl⟩⟩⟩⟩)
 ·rw [Tr.get_put,if_pos rfl];simp
 ·refine ZlU n i ?_;rcases Nat.lt_or_ge i n with h | h
  ·exact h
  ·rw [List.getElem?_eq_none (by simpa using h)] at hx;cases hx
 ·have:=List.mem_of_getElem? hx;exact List.eq_of_mem_replicate this
theorem Zkb (H:TyR P E) (R:Rel F a fp s T S) {t:TypeId} {x y:Operand} (h:op2 E (.makeSlice t x y) s k=some r):Res F a fp s T S (opK P K (.makeSlice t x y) T S) k r:=by
 simp only [op2,ZhI,Zaa] at h;obtain ⟨p,h1,q,h2,u,h3,h⟩:=h;obtain ⟨c,e1,r1⟩:=Zbd R h1;obtain ⟨d,e2,r2⟩:=Zbd R h2;split at h
 ·rename_i u kn n km m;cases ho2:E.o2 t<;>rw [ho2] at h
  case true=>
   rw [Zag] at h;cases u<;>(try dsimp only at h)<;>try (cases h;done)
   case list w=>
   rw [Zbm (x:=r)] at h;obtain ⟨g0,rfl,g1⟩:=of_decide_eq_true h.1;obtain ⟨e,el,g,he,hu,hg,_,ok⟩:=Zn0 H h3;cases r1 with | dat d1=>cases r2 with | dat d2=>
   have:=DR.int d1;subst this;have:=DR.int d2;subst this;have hn:Int.toNat n<=1000000:=by
    have h1:(show Int from n)<=1000000:=g1;exact Int.toNat_le.2 h1
   have hb:g.bytes * n.toNat<=big:=by
    have h1:g.bytes * n.toNat<=1000 * 1000000:=Nat.mul_le_mul ok.bytes hn;have h2:1000 * 1000000<=big:=by unfold big;omega
    exact le_trans h1 h2
   have hzc:g.zero.cells=[.nils]:=ok.zero;have hzl:g.zero.cells.length=g.size:=by rw [ok.zero,Ty.zcv_len,ok.size]
   have hc:(Nat.ble n.toNat n.toNat&&Nat.ble (g.bytes * n.toNat) big&&Nat.ble n.toNat big&&g.zero.cells.length.beq g.size)=true:=by
    rw [Zah.2 (le_refl _),Zah.2 hb,Zah.2 (le_trans hn (by unfold big;omega)),Zad.2 hzl];rfl
   have ho:opK P K (.makeSlice t x y) T S=some (.ms S.next 0 n.toNat (some n.toNat) g.size,ZcW S (.cells (Zhp g.zero.cells n.toNat))):=by
    simp only [opK,aOp,e1,e2,Zap,Zb8,Zh2 g0,he,hu,Zcq,hg,hc,chk,Zag]
   rw [ho,ok.size,hzc];obtain ⟨a',fp',ha,hb,hfp,R'⟩:=R.newOwn2 w n.toNat;exact ZeP R rfl (le_succ _) R' rfl (lt_succ_self _) ha rfl h.2 (le_succ _) (fun c hc=>⟨hfp c hc,hb c hc⟩)
  rw [Zan] at h;simp only [Zaa] at h;obtain ⟨z,hz,h⟩:=h;rw [Zbm (x:=r)] at h;obtain ⟨g0,rfl,g1⟩:=of_decide_eq_true h.1;obtain ⟨e,el,g,he,hu,hg,_,ok⟩:=Zn0 H h3;cases r1 with | dat d1=>cases r2 with | dat d2=>
  have:=DR.int d1;subst this;have:=DR.int d2;subst this;have hn:Int.toNat n<=1000000:=by
   have h1:(show Int from n)<=1000000:=g1;exact Int.toNat_le.2 h1
  have hzc:NRs (u.cells z) g.zero.cells:=by rw [ok.zero];exact Ty.zden_zcv u z hz
  have hb:g.bytes * n.toNat<=big:=by
   have h1:g.bytes * n.toNat<=1000 * 1000000:=Nat.mul_le_mul ok.bytes hn;have h2:1000 * 1000000<=big:=by unfold big;omega
   exact le_trans h1 h2
  have hzl:g.zero.cells.length=g.size:=by rw [ok.zero,Ty.zcv_len,ok.size]
  have hc:(Nat.ble n.toNat n.toNat&&Nat.ble (g.bytes * n.toNat) big&&Nat.ble n.toNat big&&g.zero.cells.length.beq g.size)=true:=by
   rw [Zah.2 (le_refl _),Zah.2 hb,Zah.2 (le_trans hn (by unfold big;omega)),Zad.2 hzl];rfl
  have ho:opK P K (.makeSlice t x y) T S=some (.ms S.next 0 n.toNat (some n.toNat) g.size,ZcW S (.cells (Zhp g.zero.cells n.toNat))):=by
   simp only [opK,aOp,e1,e2,Zap,Zb8,Zh2 g0,he,hu,Zcq,hg,hc,chk,Zag]
  rw [ho,ok.size];obtain ⟨a',fp',ha,hb,hfp,R'⟩:=R.newOwn (t:=u) (l:=replicate n.toNat z) (n:=n.toNat) (cap:=some n.toNat) (post:=[]) (by simp) (ZoZ hzc n.toNat)
   (fun k hk=>by cases hk;simp [ZiD,hzl,ok.size])
  rw [append_nil] at R';exact ZeP R rfl (le_succ _) R' rfl (lt_succ_self _) ha rfl h.2 (le_succ _) (fun c hc=>⟨hfp c hc,hb c hc⟩)
 ·cases h
theorem Zr0 {m:Nat} {l xs:List V2} {cs us:List AV} {off:Nat} (h1:Zbl m a l cs) (h2:Zbl m a xs us) (hle:off+xs.length<=l.length):∃ r,over cs off us=some r/\Zbl m a (ZjS l off xs) r:=by
 have e2:=h2.length;refine ⟨_,ZjY (by rw [h1.length,e2];exact hle),?_⟩;unfold ZjS;rw [e2];exact (h1.take off).append (h2.append (h1.drop _))
theorem Zpa {l xs:List V2} {off:Nat} (hle:off+xs.length<=l.length):(ZjS l off xs).length=l.length:=by
 unfold ZjS;simp only [length_append,length_take,length_drop];omega
theorem ZiE {m:Nat} {pl pl':Nat->Option (Nat×Nat)} (hpl:∀ i p,pl i=some p->pl' i=some p):∀ {vs:List (Nat×V2)} {us:List (Nat×AV)} {l l2:List V2} {cs:List AV},VRp m a vs us->Zbl m a l cs->ZoF pl l vs=some l2 ->
 ∃ r,ZeG pl' cs us=some r/\Zbl m a l2 r/\l2.length=l.length
 | [],_,l,l2,cs,hv,hl,h=>by cases hv;cases h;exact ⟨cs,rfl,hl,rfl⟩
 | (i,v)::vs,_,l,l2,cs,hv,hl,h=>by
  cases hv with | cons h1 h2=>
  simp only [ZoF,Zaa,Zak,and_eq_true,Zad,Zah] at h;obtain ⟨p,hp,⟨g1,g2⟩,h⟩:=h;obtain ⟨r1,k1,k2⟩:=Zr0 hl h1.fl (off:=p.1) (by omega);obtain ⟨r2,k3,k4,k5⟩:=ZiE hpl h2 k2 h;refine ⟨r2,?_,k4,by rw [k5,Zpa (by omega)]⟩;simp only [ZeG,hpl i p hp,Zap,chk,h1.fl.length,g1,Zad.2 rfl,Zag,k1,k3]
theorem ZhK {E:Zcn} (H:TyR P E):∀ {fs:List Field} {u:Ty} {off:Nat},Zrs E.ty fs u off=true->∃ ps,Zdj P fs=some ps/\∀ (i:Nat) (tf:Ty) (o:Nat),u.fld i=some (tf,o)->ps[i]?=some (off+o,tf.size)
 | [],_,_,h=>by cases h
 | [fd],u,off,h=>by
  have h0:=h;simp only [Zrs,and_eq_true,Bool.not_eq_true',Zad] at h;obtain ⟨⟨h1,h2⟩,h3⟩:=h;obtain ⟨g,hg,ok⟩:=H.ok _ _ (Zbr h2);refine ⟨[(fd.offset,g.size)],by simp only [Zdj,hg,Zap],?_⟩;intro i tf o hi;obtain ⟨fd',k1,k2,k3⟩:=Zi6 h0 hi;cases i with
  | zero=>simp at k1;subst k1;rw [Zbr h2] at k3;cases k3;simp [k2,ok.size]
  | succ i=>simp at k1
 | fd::gd::fs,u,off,h=>by
  cases u with
  | prod p q=>
   simp only [Zrs,and_eq_true,Zad] at h;obtain ⟨⟨h1,h2⟩,h3⟩:=h;obtain ⟨g,hg,ok⟩:=H.ok _ _ (Zbr h2);obtain ⟨ps,hps,hq⟩:=ZhK H h3;refine ⟨(fd.offset,g.size)::ps,by rw [Zdj,hg,Zap,hps,Zap],?_⟩;intro i tf o hi;cases i with
   | zero=>cases hi;simp [h1,ok.size]
   | succ i=>
    simp only [Ty.fld] at hi;cases hb:q.fld i with
    | none=>rw [hb] at hi;cases hi
    | some pr=>
     obtain ⟨t',o'⟩:=pr;rw [hb] at hi;cases hi;have:=hq i _ o' hb;rw [List.getElem?_cons_succ,this,Nat.add_assoc]
  | _=>cases h
theorem Zr1 (H:TyR P E) (R:Rel F a fp s T S) {t:TypeId} {ps:Array (Nat×Operand)} (h:op2 E (.build t ps) s k=some r):Res F a fp s T S (opK P K (.build t ps) T S) k r:=by
 simp only [op2,Zaa] at h;obtain ⟨u,h1,h⟩:=h;obtain ⟨e,he,ok⟩:=H.ok _ _ h1;cases u<;>(try dsimp only at h)<;>try (cases h;done)
 rename_i u;simp only [Zaa,Zak] at h;obtain ⟨vs,h2,_,l,h3,h⟩:=h;obtain ⟨us,e2,r2⟩:=ZoR R h2;have hz:Zbl s.nx a u.zc e.zero.cells:=by rw [ok.zero];exact Ty.zc_zcv u
 have ho:∀ rr,(match e.und with
  | .struct fields=>(Zdj P fields.toList).ob fun ps=>ZeG (fun i=>ps[i]?) e.zero.cells us
  | .array _ elem=>(te P elem).ob fun g=>ZeG (fun i=>some (i * g.size,g.size)) e.zero.cells us
  | _=>none)=some rr->opK P K (.build t ps) T S=some (.agg rr,S):=by
  intro rr hr;simp only [opK,aOp,e2,Zap,Zly,he];cases hu:e.und<;>rw [hu] at hr<;>simp only [Zaa,reduceCtorEq] at hr
  ·obtain ⟨g,hg,hr⟩:=hr;simp only [hg,Zap,hr]
  ·obtain ⟨p,hp,hr⟩:=hr;simp only [hp,Zap,hr]
 cases hs:E.str t
 ·rw [hs] at ok;obtain ⟨n,el,hu,ha⟩:=ZgG ok.und;obtain ⟨te',ht',hf⟩:=ZgD ha;obtain ⟨g,hg,okg⟩:=H.ok _ _ ht';obtain ⟨rr,k1,k2,_⟩:=ZiE (pl:=plc u) (pl':=fun i=>some (i * g.size,g.size)) (by
   intro i p hp;unfold plc at hp;simp only [Zaa,injEq] at hp;obtain ⟨⟨tf,o⟩,hp,rfl⟩:=hp;obtain ⟨rfl,rfl,_⟩:=hf hp;simp [okg.size]) r2 hz h3
  exact Res.val R (ho rr (by rw [hu];simp only [hg,Zap,k1])) (.agg k2) h
 ·rw [hs] at ok;obtain ⟨fs,hu,hfs⟩:=ZhJ ok.und;obtain ⟨pl,hp1,hp2⟩:=ZhK H hfs;obtain ⟨rr,k1,k2,_⟩:=ZiE (pl:=plc u) (pl':=fun i=>pl[i]?) (by
   intro i p hp;unfold plc at hp;simp only [Zaa,injEq] at hp;obtain ⟨⟨tf,o⟩,hp,rfl⟩:=hp;have:=hp2 i tf o hp;simpa using this) r2 hz h3
  exact Res.val R (ho rr (by rw [hu];simp only [hp1,Zap,k1])) (.agg k2) h
theorem ZlV {m:Nat} {z:List V2} {zc:List AV} (h:Zbl m a z zc):∀ n,Zbl m a (Znv z n) (Zhp zc n)
 | 0=>.nil
 | n+1=>h.append (ZlV h n)
theorem Zkc (z:List V2):∀ n,(Znv z n).length=n * z.length
 | 0=>by simp [Znv]
 | n+1=>by rw [Znv,length_append,Zkc z n,succ_mul];omega
theorem Zw1 (t:Ty):t.zc.length=t.size:=by
 have:=(Ty.zc_zcv (m:=0) (a:=fun _=>.nils) t).length;rw [<-this,Ty.zcv_len]
theorem Zpb {m:Nat} {t:Ty}:∀ {n:Nat} {l:List V2} {cs:List AV} {xs:List t.den},Zbl m a l cs->l.length=n * t.size->ZzW t (ZzV t.size n l)=some xs->NRs (xs.flatMap t.cells) cs/\xs.length=n
 | 0,l,cs,xs,hv,hl,h=>by
  cases h;have:l=[]:=List.length_eq_zero_iff.1 (by rw [hl];simp);subst this;cases hv;exact ⟨.nil,rfl⟩
 | n+1,l,cs,xs,hv,hl,h=>by
  simp only [ZzV,ZzW,Zaa,injEq] at h;obtain ⟨y,hy,ys,hys,rfl⟩:=h;have h1:=ZcA t hy (hv.take t.size);obtain ⟨h2,h3⟩:=Zpb (hv.drop t.size) (by rw [length_drop,hl,succ_mul];omega) hys;refine ⟨?_,by rw [List.length_cons,h3]⟩;have:=h1.append h2;rw [List.take_append_drop] at this;rw [flatMap_cons];exact this
theorem ZFW (H:TyR P E) (R:Rel F a fp s T S) {t:TypeId} {u:Ty} (h1:E.ty t=some (.list u)) {n:Nat} {vs:List (Nat×V2)} {us:List (Nat×AV)} (r2:VRp s.nx a vs us) (h:ZGk s u n vs k=some r):Res F a fp s T S (Zb4 P S t n us) k r:=by
 obtain ⟨e,el,g,he,hu,hg,_,ok⟩:=Zn0 H h1;simp only [ZGk,Zaa,Zak,and_eq_true,Zah] at h;obtain ⟨⟨_,hsz⟩,l,h3,h⟩:=h;have hz:Zbl s.nx a u.zc g.zero.cells:=by rw [ok.zero];exact Ty.zc_zcv u
 obtain ⟨rr,k1,k2,k3⟩:=ZiE (pl:=fun i=>some (i * u.size,u.size)) (pl':=fun i=>some (i * g.size,g.size)) (by intro i p hp;cases hp;simp [ok.size]) r2 (ZlV hz n) h3;have hlen:l.length=n * u.size:=by rw [k3,Zkc,Zw1]
 have hc:(Nat.ble (n * g.size) 16777216&&g.zero.cells.length.beq g.size)=true:=by
  rw [Zah.2 (by rw [ok.size];exact hsz),Zad.2 (by rw [ok.zero,Ty.zcv_len,ok.size])];rfl
 have ho:Zb4 P S t n us=some (.ms S.next 0 n (some n) u.size,ZcW S (.cells rr)):=by
  rw [<-ok.size];simp only [Zap,Zb4,he,hu,Zcq,hg,hc,chk,Zag,k1]
 rw [ho];split at h
 ·rename_i xs hxs;obtain ⟨q1,q2⟩:=Zpb k2 hlen hxs;obtain ⟨a',fp',ha,hb,hfp,R'⟩:=R.newOwn (t:=u) (l:=xs) (n:=n) (cap:=some n) (cs:=rr) (post:=[]) q2.symm q1
   (fun k hk=>by cases hk;rw [append_nil,k2.length,hlen,q2];exact ⟨le_refl _,le_refl _⟩)
  rw [append_nil] at R';exact ZeP R rfl (le_succ _) R' rfl (lt_succ_self _) ha rfl h (le_succ _) (fun c hc=>⟨hfp c hc,hb c hc⟩)
 ·obtain ⟨a',fp',ha,hb,hfp,R'⟩:=R.new (ck:=.lit u n l true) (b:=.cells rr) (v:=.ms S.next 0 n (some n) u.size) rfl
   (fun a' ha'=>⟨S.next,rr,rfl,rfl,by rw [Tr.get_put,if_pos rfl];rfl,k2.mono (le_succ _) ha',hlen⟩)
  exact ZeP R rfl (le_succ _) R' rfl (lt_succ_self _) ha rfl h (le_succ _) (fun c hc=>⟨hfp c hc,hb c hc⟩)
end
end Go.Eng
