import Derived.Test.YtipafbfdjfbkbaaGreatDoorE2Op
set_option linter.unusedVariables false
set_option linter.unusedSectionVars false
open Option (bind_eq_some_iff)
open Nat (le_refl add_assoc)
open List (append_assoc drop_drop length_take flatMap)
namespace Go.Eng
theorem ZjX:∀ (b c new:List AV),b.length=new.length->Zet (b++c) new=some (new++c)
 | [],c,[],_=>by cases c<;>rfl
 | [],c,_::_,h=>by simp at h
 | _::_,_,[],h=>by simp at h
 | x::b,c,y::new,h=>by
  show (Zet (b++c) new).ob _=_;rw [ZjX b c new (by simpa using h)];rfl
theorem Zeg:∀ (a b c new:List AV),b.length=new.length->over (a++(b++c)) a.length new=some (a++(new++c))
 | [],b,c,new,hl=>by
  have:=ZjX b c new hl;cases hh:b++c with
  | nil=>rw [hh] at this;exact this
  | cons x r=>rw [hh] at this;exact this
 | x::a,b,c,new,hl=>by
  show (over (a++(b++c)) a.length new).ob _=_;rw [Zeg a b c new hl];rfl
theorem ZjY {cs new:List AV} {off:Nat} (h:off+new.length<=cs.length):over cs off new=some (cs.take off++(new++cs.drop (off+new.length))):=by
 have e:cs=cs.take off++((cs.drop off).take new.length++cs.drop (off+new.length)):=by
  rw [<-drop_drop,List.take_append_drop,List.take_append_drop]
 have hl:(cs.take off).length=off:=by rw [length_take];omega
 have:=Zeg (cs.take off) ((cs.drop off).take new.length) (cs.drop (off+new.length)) new (by rw [length_take,List.length_drop];omega);rw [<-e,hl] at this;exact this
section
variable [Gl] [Mx] {P:Program} {K:ZcY} {E:Zcn} {F:Fr} {a:Nat->AV} {fp:Nat->Nat->Prop} {s s0:S2} {T:Tm} {S S':St} {α:Type} {k:K2 α} {r:α}
theorem ZoU {ρ:Nat->Nat->AV} {m:Nat} {h:Tr AB} {fpc:Nat->Prop} {v:AV} {t:Ty} {l:List t.den} (ck:Zcr ρ m a h fpc v (.own t l true)) {i:Nat} {y:t.den} (hy:l[i]?=some y) :
 ∃ q o cap p c r,v=.ms q o l.length cap t.size/\fpc q/\h.get q=some (.cells (p++(c++r)))/\p.length=o+i * t.size/\NRs (t.cells y) c /\
  ∀ (y':t.den) (c2:List AV) (h':Tr AB),NRs (t.cells y') c2->h'.get q=some (.cells (p++(c2++r)))->Zcr ρ m a h' fpc v (.own t (l.set i y') true):=by
 obtain ⟨hone,ck⟩:=ck;rcases ck with ⟨rfl,_⟩ | ⟨hw,_⟩ | ⟨q,o,cap,cs,pre,post,hv,hs⟩
 ·simp at hy
 ·cases hw
 ·obtain ⟨p,x,h1,h2,h3⟩:=ZcM hy;have hn:=hs.nr;rw [h1] at hn;obtain ⟨b,d,rfl,hb,hd⟩:=hn.split;obtain ⟨c,f,rfl,hc,hf⟩:=hd.split;have hblk:h.get q=some (.cells (pre++((b++(c++f))++post))):=hs.blk;refine ⟨q,o,cap,pre++b,c,f++post,hv,hs.fp,?_,?_,hc,?_⟩
  ·rw [hblk];simp [append_assoc]
  ·rw [List.length_append,hs.off,hb.length,h2]
  ·intro y' c2 h' hc2 hg;refine ⟨hone,.inr (.inr ⟨q,o,cap,b++(c2++f),pre,post,by rw [hv,List.length_set],hs.fp,?_,hs.off,?_,?_⟩)⟩
   ·show h'.get q=_;rw [hg];simp [append_assoc]
   ·rw [h3];exact hb.append (hc2.append hf)
   ·intro k hk;obtain ⟨g1,g2⟩:=hs.cap k hk;have e1:c2.length=c.length:=by rw [hc2.length,hc.length,Ty.cells_len,Ty.cells_len]
    refine ⟨by rw [List.length_set];exact g1,fun hw=>?_⟩;have:=g2 hw;simp only [List.length_append,e1] at this |-
    exact this
theorem Zfz (H:TyR P E) (R:Rel F a fp s T S) {t:TypeId} {p v:V2} {c d:AV} {e:TE} (he:te P t=some e) (r1:VR2 s.nx a p c) (r2:VR2 s.nx a v d) (h:ZcZ E s t p v k=some r):Res F a fp s T S ((Zc6 e S c d).ob fun S'=>some (.tup [],S')) k r:=by
 simp only [ZcZ,Zaa] at h;obtain ⟨u,h2,h⟩:=h;obtain ⟨e',he',ok⟩:=H.ok _ _ h2;rw [he] at he';cases he';have hlen:=r2.fl.length;cases p<;>(try dsimp only at h)<;>try (cases h;done)
 case bx c off=>
  simp only [Zaa] at h;obtain ⟨ck,h3,h⟩:=h;cases ck<;>(try dsimp only at h)<;>try (cases h;done)
  case box l w=>
   simp only [Zak,Bool.and_eq_true,Zad,Zah] at h;obtain ⟨⟨⟨⟨hw,g1⟩,g2⟩,g3⟩,h⟩:=h;subst hw;cases r1 with | bx hc hb=>
   rename_i n;obtain ⟨n',cs,k1,k2,k3,k4,k5⟩:=R.chunks _ _ h3;rw [hb] at k1;cases k1;have k3:S.heap.get n=some (.cells cs):=k3;have hov:=ZjY (cs:=cs) (new:=d.cells) (off:=off) (by rw [hlen,k4.length];omega);have hone:d.cells.all AV.one=true:=r2.fl.all_one g2;have hds:d.cells.length=u.size:=by rw [hlen,g1]
   rw [hds] at hov;refine ⟨.tup [],.tup [],Zs8 s c (.box (ZjS l off v.fl) true),a,fp,⟨S.heap.put n (.cells (cs.take off++(d.cells++cs.drop (off+u.size)))),S.next⟩,?_,le_refl _,?_,rfl,.tup .nil,h,le_refl _,fun _ _=>⟨rfl,fun _=>rfl⟩⟩
   ·simp only [Zc6,cellsOf,k3,Zap,ok.size,hds,Zad.2 rfl,hone,Bool.and_self,chk,Zag];rw [hov];rfl
   ·refine R.set h3 rfl ?_ (le_refl _) ?_
    ·intro m _ hm;rw [Tr.get_put,if_neg (fun e=>hm (by rw [e];exact k2))]
    ·refine ⟨n,_,hb,k2,by rw [Tr.get_put,if_pos rfl];rfl,?_,by have:=k5.over (off:=off) (ys:=d.cells) k4.length hlen (fun v hv=>ZHZ (List.all_eq_true.1 g2 v hv)) (by omega);rw [g1] at this;unfold ZjS;rw [g1];exact this⟩;have:=(k4.take off).append ((r2.fl).append (k4.drop (off+v.fl.length)));rw [g1] at this;unfold ZjS;rw [g1];exact this
 case el c i z0 off=>
  simp only [Zaa] at h;obtain ⟨ck,h3,h⟩:=h;cases ck<;>(try dsimp only at h)<;>try (cases h;done)
  case own w l wr=>
   simp only [Zak,Bool.and_eq_true,Zad,Zaa] at h;obtain ⟨⟨hw,hz0⟩,z,hz,h⟩:=h;subst hw;subst hz0;obtain ⟨yy,hy,h⟩:=bind_eq_some_iff.1 h;simp only [Zaa] at h;obtain ⟨y',hy',h⟩:=h;obtain ⟨g0,g1,g2⟩:=ZaI hy;obtain ⟨q,o,cap,p,c0,rr,k1,k2,k3,k4,k5,k6⟩:=ZoU (R.chunks _ _ h3) g2;obtain ⟨l',cm,r',m1,m2,m3,m4⟩:=Ty.upd_cells u z hy';rw [m1] at k5;obtain ⟨b,d',rfl,q1,q2⟩:=k5.split;obtain ⟨c',f,rfl,q3,q4⟩:=q2.split;have hnz:=ZcA u hz r2.fl;cases r1 with
   | elf hc hb=>rw [k1] at hb;cases hb
   | el hc hb=>
    rw [k1] at hb;cases hb;have hcl:c'.length=d.cells.length:=by rw [q3.length,m3,hnz.length,Ty.cells_len]
    have e4:p++((b++(c'++f))++rr)=(p++b)++(c'++(f++rr)):=by simp [append_assoc]
    have hov:=Zeg (p++b) c' (f++rr) d.cells hcl;rw [<-e4,List.length_append,k4,q1.length,m2] at hov;have hone:d.cells.all AV.one=true:=ZoO hnz (Zda u z);have hds:d.cells.length=u.size:=by rw [hnz.length,Ty.cells_len]
    refine ⟨.tup [],.tup [],Zs8 s c (.own w (Zaq l i y') true),a,fp,⟨S.heap.put q (.cells ((p++b)++(d.cells++(f++rr)))),S.next⟩,?_,le_refl _,?_,rfl,.tup .nil,h,le_refl _,fun _ _=>⟨rfl,fun _=>rfl⟩⟩
    ·simp only [Zc6,cellsOf,k3,Zap,ok.size,hds,Zad.2 rfl,hone,Bool.and_self,chk,Zag];rw [hov];rfl
    ·refine R.set h3 rfl ?_ (le_refl _) ?_
     ·intro m _ hm;rw [Tr.get_put,if_neg (fun e=>hm (by rw [e];exact k2))]
     ·refine k6 y' (b++(d.cells++f)) _ ?_ ?_
      ·rw [m4];exact q1.append (hnz.append q4)
      ·rw [Tr.get_put,if_pos rfl];simp [append_assoc]
 case ea c i=>
  simp only [Zaa] at h;obtain ⟨ck,h3,h⟩:=h;cases ck<;>(try dsimp only at h)<;>try (cases h;done)
  case arr w l=>
   simp only [Zaa] at h;obtain ⟨z,hz,h⟩:=h;obtain ⟨yy,hy,h⟩:=bind_eq_some_iff.1 h;simp only [Zaa] at h;obtain ⟨z',hz',h⟩:=h;obtain ⟨e9,hz'⟩:=Zal hz';subst e9;subst hz';obtain ⟨g0,g1,g2⟩:=ZaI hy;obtain ⟨q,cs,hv,hq,hb,hnr⟩:=R.chunks _ _ h3;cases r1 with | ea hc hac=>
   have hac':=hac;rw [hv] at hac;cases hac;obtain ⟨p,x,f1,f2,f3⟩:=ZcM g2;rw [f1] at hnr;obtain ⟨b,d',rfl,q1,q2⟩:=hnr.split;obtain ⟨c',f,rfl,q3,q4⟩:=q2.split;have hnz:=ZcA u hz r2.fl;have hcl:c'.length=d.cells.length:=by rw [q3.length,hnz.length,Ty.cells_len,Ty.cells_len]
   have hov:=Zeg b c' f d.cells hcl;rw [q1.length,f2] at hov;have hone:d.cells.all AV.one=true:=ZoO hnz (Zda u z);have hds:d.cells.length=u.size:=by rw [hnz.length,Ty.cells_len]
   refine ⟨.tup [],.tup [],Zs8 s c (.arr u (Zaq l i z)),a,fp,⟨S.heap.put q (.cells (b++(d.cells++f))),S.next⟩,?_,le_refl _,?_,rfl,.tup .nil,h,le_refl _,fun _ _=>⟨rfl,fun _=>rfl⟩⟩
   ·simp only [Zc6,cellsOf,hb,Zap,ok.size,hds,Zad.2 rfl,hone,Bool.and_self,chk,Zag];rw [hov];rfl
   ·refine R.set h3 rfl ?_ (le_refl _) ?_
    ·intro m _ hm;rw [Tr.get_put,if_neg (fun e=>hm (by rw [e];exact hq))]
    ·refine ⟨q,b++(d.cells++f),by rw [hv];simp [Zaq],hq,by rw [Tr.get_put,if_pos rfl],?_⟩;unfold Zaq;rw [f3];exact q1.append (hnz.append q4)
theorem Zla {E:Zcn} (H:TyR P E) {t:TypeId} {w:Ty} (hs:E.str t=true) (ht:E.ty t=some (.st w)) {f:Nat} {tf:Ty} {o:Nat} (hf:w.fld f=some (tf,o)) :
 ∃ e fs fd g,te P t=some e/\ZeE e.und=some fs/\fs[f]?=some fd/\fd.offset=o/\te P fd.type=some g/\Z0I E.ty (E.str fd.type) tf g:=by
 obtain ⟨e,he,ok⟩:=H.ok _ _ ht;rw [hs] at ok;obtain ⟨fs,hu,hfs⟩:=ZhJ ok.und;obtain ⟨fd,h1,h2,h3⟩:=Zi6 hfs hf;obtain ⟨g,hg,ok2⟩:=H.ok _ _ h3;exact ⟨e,fs.toList,fd,g,he,by rw [hu];rfl,h1,by omega,hg,ok2⟩
theorem ZjZ (H:TyR P E) (R:Rel F a fp s T S) {t:TypeId} {x:Operand} {f:Nat} (h:op2 E (.fieldAddr t x f) s k=some r):Res F a fp s T S (opK P K (.fieldAddr t x f) T S) k r:=by
 simp only [op2,ZhG,Zaa,Zak] at h;obtain ⟨p,h1,hs,u,h2,h⟩:=h;obtain ⟨c,e1,r1⟩:=Zbd R h1;cases u<;>(try dsimp only at h)<;>try (cases h;done)
 rename_i u;have ho:∀ {tf:Ty} {o:Nat},u.fld f=some (tf,o)->opK P K (.fieldAddr t x f) T S=(Zf7 o c).ob fun v=>some (v,S):=by
  intro tf o hf;obtain ⟨e,fs,fd,g,he,hst,hfd,hofs,hg,ok⟩:=Zla H hs h2 hf;have hz:(!g.size.beq 0)=true:=by rw [ok.size];have:=Ty.size_pos tf;rw [ZaR (by omega)];rfl
  subst hofs;simp only [opK,aOp,e1,Zap,ZdZ,he,hst,hfd,hg,hz,chk,Zag]
 cases p<;>(try dsimp only at h)<;>try (cases h;done)
 case bx c0 off=>
  simp only [Zaa] at h;obtain ⟨⟨tf,o⟩,hf,h⟩:=h;cases r1 with | bx hc hb=>exact Res.val R (by rw [ho hf];rfl) (.bx hc hb) h
 case el c0 i z off=>
  simp only [Zaa] at h;obtain ⟨⟨tf,o⟩,hf,h⟩:=h;cases r1 with
  | el hc hb=>exact Res.val R (by rw [ho hf];rfl) (by have:=VR2.el (i:=i) (z:=z) (off:=off+o) hc hb;rw [<-add_assoc] at this;exact this) h
  | elf hc hb=>exact Res.val R (by rw [ho hf];rfl) (by have:=VR2.elf (i:=i) (z:=z) (off:=off+o) hc hb;rw [<-add_assoc,<-drop_drop] at this;exact this) h
 case fpe w y=>
  simp only [Zaa] at h;obtain ⟨y',hy,d,hd,h⟩:=h;have hcu:=ZgE hy;obtain ⟨o,hf,l,rr,hc,hl⟩:=Ty.proj_cells hd;cases r1 with | fpe=>
  refine Res.val R (by rw [ho hf];rfl) ?_ h;rename_i r0;have:(Ty.cells w y++r0).drop o=d.1.cells d.2++(rr++r0):=by
   rw [hcu];show (u.cells y'++r0).drop o=_;rw [hc,<-hl];simp [append_assoc]
  rw [this];exact .fpe
 case dat w y=>
  cases w<;>(try dsimp only at h)<;>try (cases h;done)
  rename_i w;simp only [Zaa] at h;obtain ⟨y',hy,d,hd,h⟩:=h;obtain ⟨e2,_⟩:=Zal hy;subst e2;have hy:=Zca hy;subst hy;obtain ⟨o,hf,l,rr,hc,hl⟩:=Ty.proj_cells hd;cases r1 with | dat dd=>
  have:=DR.ptr dd;subst this;refine Res.val R (by rw [ho hf];rfl) ?_ h;have:(Ty.cells (.st u) y).drop o=d.1.cells d.2++rr:=by
   show (u.cells y).drop o=_;rw [hc,<-hl];simp
  rw [this];exact .fpe
theorem Zrw (H:TyR P E) (R:Rel F a fp s T S) {t:TypeId} {x:Operand} {f:Nat} (h:op2 E (.field t x f) s k=some r):Res F a fp s T S (opK P K (.field t x f) T S) k r:=by
 simp only [op2,Zs9,Zaa,Zak] at h;obtain ⟨p,h1,hs,u,h2,h⟩:=h;obtain ⟨c,e1,r1⟩:=Zbd R h1;cases u<;>(try dsimp only at h)<;>try (cases h;done)
 rename_i u;cases p<;>(try dsimp only at h)<;>try (cases h;done)
 case agg l=>
  simp only [Zaa] at h;obtain ⟨⟨tf,o⟩,hf,h⟩:=h;obtain ⟨e,fs,fd,g,he,hst,hfd,hofs,hg,ok⟩:=Zla H hs h2 hf;subst hofs;cases r1 with | agg hl=>
  rename_i cs;have ho:opK P K (.field t x f) T S=(ZeF g cs fd.offset).ob fun v=>some (v,S):=by simp only [opK,aOp,e1,Zap,Zjs,he,hst,hfd,hg]
  rw [ho];simp only [ZeF,ok.agg,ok.size];dsimp only at h;cases hu:tf.agg<;>rw [hu] at h
  ·simp only [Zan,Zaa] at h |-
   obtain ⟨z,h4,h⟩:=h;obtain ⟨z',h5,h6⟩:=hl.get h4;exact Res.val R (by rw [Zi9 h5,Zap]) h6 h
  ·simp only [Zag,Zak,Zah] at h |-
   have hlen:((cs.drop fd.offset).take tf.size).length=tf.size:=by have:=hl.length;rw [length_take,List.length_drop,this];omega
   exact Res.val R (by unfold sub;dsimp only;rw [hlen,Zad.2 rfl];rfl) (.agg ((hl.drop _).take tf.size)) h.2
 case dat w y=>
  simp only [Zaa] at h;obtain ⟨y',hy,d,hd,h⟩:=h;obtain ⟨e2,_⟩:=Zal hy;subst e2;have hy:=Zca hy;subst hy;obtain ⟨o,hf,l,rr,hc,hl⟩:=Ty.proj_cells hd;obtain ⟨e,fs,fd,g,he,hst,hfd,hofs,hg,ok⟩:=Zla H hs h2 hf;cases r1 with | dat dd=>
  obtain ⟨cs,rfl,hn⟩:=DR.st.1 dd;rw [hc] at hn;obtain ⟨b,d',rfl,q1,q2⟩:=hn.split;obtain ⟨c',f',rfl,q3,q4⟩:=q2.split;obtain ⟨v,hv,hr⟩:=Zef (m:=s.nx) (a:=a) ok (l:=b) (r:=f') (o:=fd.offset) (by rw [q1.length,hl,hofs]) q3;exact Res.val R (by simp only [opK,aOp,e1,Zap,Zjs,he,hst,hfd,hg,hv]) hr h
structure Z2v (w:Ty) (g:TE):Prop where
 size:g.size=w.size
 bytes:g.bytes<=1000
 zero:g.zero.cells=w.zcv
theorem Zn0 {E:Zcn} (H:TyR P E) {t:TypeId} {w:Ty} (ht:E.ty t=some (.list w)):∃ e el g,te P t=some e/\e.und=.slice el/\te P el=some g/\True/\Z2v w g:=by
 obtain ⟨e,he,ok⟩:=H.ok _ _ ht;obtain ⟨el,hu,h3⟩:=Zcx ok.und;unfold Z0b at h3;rw [Bool.or_eq_true] at h3;rcases h3 with h3 | h3
 ·obtain ⟨g,hg,ok2⟩:=H.ok _ _ (Zbr h3);exact ⟨e,el,g,he,hu,hg,trivial,ok2.size,ok2.bytes,ok2.zero⟩
 ·cases w<;>(try (cases h3;done))
  rename_i k;obtain ⟨g,hg,ok2⟩:=H.ok _ _ (Zbr h3);exact ⟨e,el,g,he,hu,hg,trivial,ok2.size.trans k.size_eq,ok2.bytes,ok2.zero.trans k.zcv_eq.symm⟩
theorem Zwz {E:Zcn} (H:TyR P E) {t:TypeId} {w:Ty} (hs:E.str t=false) (ht:E.ty t=some (.st w)) {f:Nat} {tf:Ty} {o:Nat} (hf:w.fld f=some (tf,o)) :
 ∃ e n el g,te P t=some e/\e.und=.array n el/\te P el=some g/\f < n/\f * g.size=o:=by
 obtain ⟨e,he,ok⟩:=H.ok _ _ ht;rw [hs] at ok;obtain ⟨n,el,hu,ha⟩:=ZgG ok.und;obtain ⟨t',h1,h2⟩:=ZgD ha;obtain ⟨rfl,h3,h4⟩:=h2 hf;obtain ⟨g,hg,ok2⟩:=H.ok _ _ h1;exact ⟨e,n,el,g,he,hu,hg,h4,by rw [ok2.size,h3]⟩
theorem ZiA (H:TyR P E) (R:Rel F a fp s T S) {t:TypeId} {x i:Operand} {p j:V2} (h1:ev2 s x=some p) (h2:ev2 s i=some j) (h:Zee E s t p j k=some r):Res F a fp s T S (opK P K (.indexAddr t x i) T S) k r:=by
 simp only [Zee,Zaa] at h;obtain ⟨u,h3,h⟩:=h;obtain ⟨c,e1,r1⟩:=Zbd R h1;obtain ⟨d,e2,r2⟩:=Zbd R h2;split at h
 ·rename_i u kk e0;rw [Zak,Bool.and_eq_true,Bool.not_eq_true',decide_eq_true_iff] at h;obtain ⟨⟨hs,g0⟩,h⟩:=h;cases r2 with | dat d2=>
  have:=DR.int d2;subst this;have ho:∀ {tf:Ty} {o:Nat},u.fld e0.toNat=some (tf,o)->opK P K (.indexAddr t x i) T S=(Zf7 o c).ob fun v=>some (v,S):=by
   intro tf o hf;obtain ⟨e,n,el,g,he,hu,hg,hlt,hofs⟩:=Zwz H hs h3 hf;subst hofs;simp only [opK,aOp,e1,e2,Zap,Zb2,Zh2 g0,he,hu,hg,Za6.2 hlt,chk,Zag]
  cases p<;>(try dsimp only at h)<;>try (cases h;done)
  case bx c0 off=>
   simp only [Zaa] at h;obtain ⟨⟨tf,o⟩,hf,h⟩:=h;cases r1 with | bx hc hb=>exact Res.val R (by rw [ho hf];rfl) (.bx hc hb) h
  case el c0 i z off=>
   simp only [Zaa] at h;obtain ⟨⟨tf,o⟩,hf,h⟩:=h;cases r1 with
   | el hc hb=>exact Res.val R (by rw [ho hf];rfl) (by have:=VR2.el (i:=i) (z:=z) (off:=off+o) hc hb;rw [<-add_assoc] at this;exact this) h
   | elf hc hb=>exact Res.val R (by rw [ho hf];rfl) (by have:=VR2.elf (i:=i) (z:=z) (off:=off+o) hc hb;rw [<-add_assoc,<-drop_drop] at this;exact this) h
  case fpe w y=>
   simp only [Zaa] at h;obtain ⟨y',hy,d,hd,h⟩:=h;obtain ⟨e2,_⟩:=Zal hy;subst e2;have hy:=Zca hy;subst hy;obtain ⟨o,hf,l,rr,hc,hl⟩:=Ty.proj_cells hd;cases r1 with | fpe=>
   refine Res.val R (by rw [ho hf];rfl) ?_ h;rename_i r0;have:(Ty.cells (.st u) y++r0).drop o=d.1.cells d.2++(rr++r0):=by
    show (u.cells y++r0).drop o=_;rw [hc,<-hl];simp [append_assoc]
   rw [this];exact .fpe
  case dat w y=>
   cases w<;>(try dsimp only at h)<;>try (cases h;done)
   rename_i w;simp only [Zaa] at h;obtain ⟨y',hy,d,hd,h⟩:=h;obtain ⟨e2,_⟩:=Zal hy;subst e2;have hy:=Zca hy;subst hy;obtain ⟨o,hf,l,rr,hc,hl⟩:=Ty.proj_cells hd;cases r1 with | dat dd=>
   have:=DR.ptr dd;subst this;refine Res.val R (by rw [ho hf];rfl) ?_ h;have:(Ty.cells (.st u) y).drop o=d.1.cells d.2++rr:=by
    show (u.cells y).drop o=_;rw [hc,<-hl];simp
   rw [this];exact .fpe
 ·rename_i u kk e0;obtain ⟨e,el,g,he,hu,hg,_,ok⟩:=Zn0 H h3;cases r2 with | dat d2=>
  have:=DR.int d2;subst this;have fs_ix:∀ {l:List u.den} {y:u.den},gI l e0=some y->Zb2 P t (.fs (l.flatMap u.cells) l.length) (.int kk e0)=some (.fp ((l.flatMap u.cells).drop (e0.toNat * u.size))):=by
   intro l y hy;obtain ⟨g0,g1,g2⟩:=ZaI hy;have hne:(l.flatMap u.cells).isEmpty=false:=by
    cases hl:l.flatMap u.cells with
    | nil=>
     have:=Zd5 (t:=u) l;rw [hl] at this;have h3:0 < l.length * u.size:=Nat.mul_pos (by omega) (Ty.size_pos u);simp at this;omega
    | cons _ _=>rfl
   simp only [Zb2,Zh2 g0,Zap,he,hu,hg,Za6.2 g1,hne,Bool.not_false,Bool.and_self,chk,Zag,ok.size]
  cases p<;>(try dsimp only at h)<;>try (cases h;done)
  case dat w l=>
   cases w<;>(try dsimp only at h)<;>try (cases h;done)
   rename_i w;simp only [Zaa] at h;obtain ⟨l',hl',h⟩:=h;obtain ⟨e3,hl'⟩:=Za1 hl';subst e3;subst hl';obtain ⟨y,hy,h⟩:=bind_eq_some_iff.1 h;obtain ⟨g0,g1,g2⟩:=ZaI hy;cases r1 with | dat d1=>
   rcases DR.list d1 with hv | ⟨hl,hv⟩
   ·subst hv;obtain ⟨p,q,f1,f2,_⟩:=ZcM g2;refine Res.val R (u:=.fp ((flatMap w.cells l).drop (e0.toNat * w.size))) ?_ ?_ h
    ·have:=fs_ix hy;simp only [opK,aOp,e1,e2,Zap];rw [this,Zap]
    ·dsimp only at f1 |-
     rw [f1,<-f2,List.drop_left];exact .fpe
   ·subst hl;simp at g1
  case sl c0=>
   simp only [Zaa] at h;obtain ⟨ck,h4,h⟩:=h;cases ck<;>(try dsimp only at h)<;>try (cases h;done)
   case own2 w l e'=>
    simp only [Zaa] at h;obtain ⟨l',hl',h⟩:=h;obtain ⟨e3,_⟩:=Za1 hl';subst e3;obtain ⟨y,hy,h⟩:=bind_eq_some_iff.1 h;obtain ⟨g0,g1,g2⟩:=ZaI hy;cases r1 with | sl hc hone=>
    rcases (R.chunks _ _ h4).2 with ⟨hl,hv⟩ | ⟨q,o,cap,cs,pre,post,hv,_⟩
    ·subst hl;simp at g1
    ·refine Res.val R (u:=.mp q (o+e0.toNat * 1)) ?_ ?_ h
     ·simp only [opK,aOp,e1,e2,Zap,hv,Zb2,Zh2 g0,he,hu,hg,Za6.2 g1,chk,Zag,ok.size];rfl
     ·exact .el hc hv
   case mix w l e'=>
    simp only [Zaa] at h;obtain ⟨l',hl',h⟩:=h;obtain ⟨e3,_⟩:=Za1 hl';subst e3;obtain ⟨y,hy,h⟩:=bind_eq_some_iff.1 h;obtain ⟨g0,g1,g2⟩:=ZaI hy;cases r1 with | sl hc hone=>
    obtain ⟨_,q,o,cap,cs,pre,post,hv,_⟩:=R.chunks _ _ h4;refine Res.val R (u:=.mp q (o+e0.toNat * 1)) ?_ ?_ h
    ·simp only [opK,aOp,e1,e2,Zap,hv,Zb2,Zh2 g0,he,hu,hg,Za6.2 g1,chk,Zag,ok.size];rfl
    ·exact .el hc hv
   rename_i w l wr;simp only [Zaa] at h;obtain ⟨l',hl',h⟩:=h;obtain ⟨e3,hl'⟩:=Za1 hl';subst e3;subst hl';obtain ⟨y,hy,h⟩:=bind_eq_some_iff.1 h;obtain ⟨g0,g1,g2⟩:=ZaI hy;cases r1 with | sl hc hone=>
   rcases (R.chunks _ _ h4).2 with ⟨hl,hv⟩ | ⟨hw,hv⟩ | ⟨q,o,cap,cs,pre,post,hv,hs⟩
   ·subst hl;simp at g1
   ·refine Res.val R (u:=.fp ((flatMap w.cells l).drop (e0.toNat * w.size))) ?_ ?_ h
    ·have:=fs_ix hy;simp only [opK,aOp,e1,e2,Zap,hv];rw [this,Zap]
    ·exact .elf hc hv
   ·refine Res.val R (u:=.mp q (o+e0.toNat * w.size)) ?_ ?_ h
    ·simp only [opK,aOp,e1,e2,Zap,hv,Zb2,Zh2 g0,he,hu,hg,Za6.2 g1,chk,Zag,ok.size]
    ·exact .el hc hv
 ·cases h
theorem Zka (H:TyR P E) (R:Rel F a fp s T S) {t:TypeId} {x i:Operand} (h:op2 E (.indexAddr t x i) s k=some r):Res F a fp s T S (opK P K (.indexAddr t x i) T S) k r:=by
 simp only [op2,Zaa] at h;obtain ⟨p,h1,j,h2,h⟩:=h;have main:Zee E s t p j k=some r->Res F a fp s T S (opK P K (.indexAddr t x i) T S) k r:=fun h=>ZiA H R h1 h2 h;unfold ZhH at h;split at h
 ·rename_i w l;simp only [Zaa,Zak,Zad] at h;obtain ⟨q,har,l',hl',hlen,h⟩:=h;obtain ⟨e3,hl'⟩:=Za1 hl';obtain ⟨qt,qn⟩:=q;dsimp only at e3;subst e3;subst hl';dsimp only at hlen h;split at h
  ·rename_i kk e0;obtain ⟨y,hy,h⟩:=bind_eq_some_iff.1 h;obtain ⟨g0,g1,g2⟩:=ZaI hy;obtain ⟨_,e,el,he,hu,hel,_⟩:=H.ar t _ har;obtain ⟨g,hg,okg⟩:=H.ok _ _ hel;obtain ⟨c,e1,r1⟩:=Zbd R h1;obtain ⟨d,e2,r2⟩:=Zbd R h2;cases r1 with | fpl=>
   cases r2 with | dat d2=>
   have:=DR.int d2;subst this;obtain ⟨p,q,f1,f2,_⟩:=ZcM g2;have hlt:Nat.blt e0.toNat qn=true:=Za6.2 (by rw [<-hlen];exact g1);refine Res.val R (u:=.fp ((flatMap w.cells l).drop (e0.toNat * w.size))) ?_ ?_ h
   ·simp only [opK,aOp,e1,e2,Zap,Zb2,Zh2 g0,he,hu,hg,hlt,chk,Zag,Zf7,okg.size]
   ·try dsimp only at f1 |-
    rw [f1,<-f2,List.drop_left];exact .fpe
  ·cases h
 ·rename_i c0;simp only [Zaa] at h;obtain ⟨q,har,ck,hck,h⟩:=h;obtain ⟨_,e,el,he,hu,hel,_⟩:=H.ar t _ har;obtain ⟨g,hg,okg⟩:=H.ok _ _ hel;cases ck<;>(try dsimp only at h)<;>try (cases h;done)
  rename_i w l;simp only [Zaa] at h;obtain ⟨l',hl',h⟩:=h;obtain ⟨e3,hl'⟩:=Za1 hl';obtain ⟨qt,qn⟩:=q;dsimp only at e3 hu hel;subst e3;subst hl';dsimp only at h;split at h
  ·rename_i kk e0;obtain ⟨y,hy,h⟩:=bind_eq_some_iff.1 h;rw [Zbm (x:=r)] at h;obtain ⟨hlt0,h⟩:=h;have hlt0:=of_decide_eq_true hlt0;obtain ⟨g0,g1,g2⟩:=ZaI hy;obtain ⟨c,e1,r1⟩:=Zbd R h1;obtain ⟨d,e2,r2⟩:=Zbd R h2;obtain ⟨q,cs,hv,_⟩:=R.chunks _ _ hck;cases r1 with | ar hc hac=>
   have hac':=hac;rw [hv] at hac;cases hac;cases r2 with | dat d2=>
   have:=DR.int d2;subst this;have hlt:Nat.blt e0.toNat qn=true:=Za6.2 ((Int.toNat_lt (show (0:Int)<=e0 from g0)).2 hlt0);refine Res.val R (u:=.mp q (e0.toNat * w.size)) ?_ (.ea hc hac') h;simp only [opK,aOp,e1,e2,Zap,Zb2,Zh2 g0,he,hu,hg,hlt,chk,Zag,Zf7,okg.size]
  ·cases h
 ·exact main h
theorem Zrx (H:TyR P E) (R:Rel F a fp s T S) {t:TypeId} {x i:Operand} (h:op2 E (.index t x i) s k=some r):Res F a fp s T S (opK P K (.index t x i) T S) k r:=by
 simp only [op2,ZsA,Zaa] at h;obtain ⟨p,h1,j,h2,u,h3,h⟩:=h;obtain ⟨c,e1,r1⟩:=Zbd R h1;obtain ⟨d,e2,r2⟩:=Zbd R h2;obtain ⟨e,he,ok⟩:=H.ok _ _ h3;split at h
 ·rename_i b kk e0;cases r1 with | dat d1=>cases r2 with | dat d2=>
  have:=DR.str d1;subst this;have:=DR.int d2;subst this;obtain ⟨n,hn,h⟩:=bind_eq_some_iff.1 h;unfold gB at hn;split at hn
  ·rename_i h0;simp only [Option.map_eq_some_iff] at hn;obtain ⟨b0,hb,rfl⟩:=hn;refine Zbs R ?_ h;simp only [opK,aOp,e1,e2,Zap,Zlz,Zh2 h0,he,ZcT ok.und,hb]
  ·cases hn
 ·cases h
theorem ZoV (R:Rel F a fp s T S):∀ {l:List V2} {us:List AV} {x n:Int} {j:IntKind},Zbl s.nx a l us->ZzX x l=some n->ZtS j x us=some (.int j n)
 | [],us,x,n,j,hv,h=>by cases hv;cases h;rfl
 | v::l,us,x,n,j,hv,h=>by
  cases hv with | cons h1 h2=>
  unfold ZzX at h;split at h
  ·cases ‹_::_=[]›
  ·rename_i heq;cases heq;cases h1 with | dat d=>
   have:=DR.int d;subst this;simp only [ZtS];exact ZoV R h2 h
  ·cases h
theorem ZoW (R:Rel F a fp s T S):∀ {l:List V2} {us:List AV} {x n:Int} {j:IntKind},Zbl s.nx a l us->ZzY x l=some n->ZtT j x us=some (.int j n)
 | [],us,x,n,j,hv,h=>by cases hv;cases h;rfl
 | v::l,us,x,n,j,hv,h=>by
  cases hv with | cons h1 h2=>
  unfold ZzY at h;split at h
  ·cases ‹_::_=[]›
  ·rename_i heq;cases heq;cases h1 with | dat d=>
   have:=DR.int d;subst this;simp only [ZtT];exact ZoW R h2 h
  ·cases h
theorem Zw0 (H:TyR P E) (R:Rel F a fp s T S) {x:Operand} {t:TypeId} {args:Array Operand} {ts:Array TypeId} (ha:args.toList=[x]) (hts:ts.toList=[t]) (h:((E.ty t).ob fun u=>(ev2 s x).ob fun v=>Zrl E s u v k)=some r) :
 Res F a fp s T S (opK P K (.call ⟨.builtin .len,args,ts⟩) T S) k r:=by
 simp only [Zaa] at h;obtain ⟨u,h1,v,h2,h⟩:=h;obtain ⟨c,e1,r1⟩:=Zbd R h2;obtain ⟨e,he,ok⟩:=H.ok _ _ h1;have ho:opK P K (.call ⟨.builtin .len,args,ts⟩) T S=(Zjl P S t c).ob fun v=>some (v,S):=by
  simp only [opK,ha,hts,evs,e1,Zap,Zbn]
 rw [ho];unfold Zrl at h;split at h
 ·obtain ⟨el,hu,_⟩:=Zcx ok.und;cases r1;exact Zbs R (by simp only [Zjl,he,hu,Zap]) h
 ·obtain ⟨el,hu,_⟩:=Zcx ok.und;cases r1 with | dat d=>
  rcases DR.list d with hv | ⟨hl,hv⟩
  ·subst hv;exact Zbs R (by simp only [Zjl,he,hu,Zap]) h
  ·subst hv;subst hl;exact Zbs R (by simp only [Zjl,he,hu,Zap];rfl) h
 ·cases r1 with | dat d=>
  have:=DR.str d;subst this;exact Zbs R (by simp only [Zjl,he,ZcT ok.und,Zap]) h
 ·obtain ⟨el,hu,_⟩:=Zcx ok.und;simp only [Zaa] at h;obtain ⟨ck,h3,h⟩:=h;cases r1 with | sl hc hone=>
  cases ck<;>(try dsimp only at h)<;>try (cases h;done)
  case own w l wr=>
   rcases (R.chunks _ _ h3).2 with ⟨hl,hv⟩ | ⟨hw,hv⟩ | ⟨q,o,cap,cs,pre,post,hv,hs⟩
   ·subst hl;rw [hv];exact Zbs R (by simp only [Zjl,he,hu,Zap];rfl) h
   ·rw [hv];exact Zbs R (by simp only [Zjl,he,hu,Zap]) h
   ·rw [hv];exact Zbs R (by simp only [Zjl,he,hu,Zap]) h
  case lit w n l wr=>
   obtain ⟨q,cs,hv,_⟩:=R.chunks _ _ h3;rw [hv];exact Zbs R (by simp only [Zjl,he,hu,Zap]) h
  case own2 w l e'=>
   rcases (R.chunks _ _ h3).2 with ⟨hl,hv⟩ | ⟨q,o,cap,cs,pre,post,hv,_⟩
   ·subst hl;rw [hv];exact Zbs R (by simp only [Zjl,he,hu,Zap];rfl) h
   ·rw [hv];exact Zbs R (by simp only [Zjl,he,hu,Zap]) h
 ·cases h
end
end Go.Eng
