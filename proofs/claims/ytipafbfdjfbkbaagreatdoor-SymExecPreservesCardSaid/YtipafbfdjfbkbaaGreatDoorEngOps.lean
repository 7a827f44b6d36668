import Derived.Test.YtipafbfdjfbkbaaGreatDoorEngMem
import GoSem.Dispatch
set_option linter.unusedSectionVars false
open Option.some (injEq)
namespace Go.Eng
variable [Gl] [Mx]
section
variable {P:Program} {t:TypeId} {e:TE}
theorem ZkG (h:te P t=some e):∃ i,P.info? t=some i/\P.underlying t=some e.und/\i.size=e.size/\i.bytes=e.bytes/\∃ z,i.zero=some z/\cv z=some e.zero:=by
 simp only [te,Zaa,injEq] at h;obtain ⟨i,hi,d,hd,z,hz,zv,hzv,rfl⟩:=h;exact ⟨i,hi,hd,rfl,rfl,z,hz,hzv⟩
theorem Zby (h:te P t=some e) (w:World):(underlying t).run P w=.ok e.und w:=by
 obtain ⟨i,hi,hd,_⟩:=ZkG h;simp [underlying,hd]
theorem Zoc (h:te P t=some e):∃ i,(∀ w,(typeInfo t).run P w=.ok i w)/\i.size=e.size/\i.bytes=e.bytes:=by
 obtain ⟨i,hi,hd,hs,hb,_⟩:=ZkG h;exact ⟨i,fun w=>by simp [typeInfo,hi],hs,hb⟩
theorem ZbB (h:te P t=some e) (w:World):(sizeOf t).run P w=.ok e.size w:=by
 obtain ⟨i,hi,hs,_⟩:=Zoc h;simp [sizeOf,hi,hs]
theorem ZfA (h:te P t=some e):∃ z,cv z=some e.zero/\∀ w,(zeroValue t).run P w=.ok z w:=by
 obtain ⟨i,hi,hd,hs,hb,z,hz,hzv⟩:=ZkG h;exact ⟨z,hzv,fun w=>by simp [zeroValue,typeInfo,hi,hz]⟩
theorem Zfo (h:te P t=some e) (w:World):(isAgg t).run P w=.ok (Zez e.und) w:=by
 simp only [isAgg,Sem.run_bind,Zby h,Result.andThen_ok];cases e.und<;>rfl
end
def Zdh (P:Program) (s:Sem Next) (E:Gh) (S:St) (w:World) (v:AV) (S':St):Prop:=
 ∃ r v' w' E',s.run P w=.ok r w'/\(r=.value v'\/(r=.skip/\v'=undef))/\VR E' v v'/\ZaZ E S.heap.get w S.next E' S'.heap.get w' S'.next
def ZaX (P:Program) (s:Sem Value) (E:Gh) (S:St) (w:World) (v:AV) (S':St):Prop:=
 ∃ v' w' E',s.run P w=.ok v' w'/\VR E' v v'/\ZaZ E S.heap.get w S.next E' S'.heap.get w' S'.next
theorem Zdh.ofV {P:Program} {s:Sem Value} {E:Gh} {S S':St} {w:World} {v:AV} (h:ZaX P s E S w v S') :
 Zdh P (do pure (.value (<-s))) E S w v S':=by
 obtain ⟨v',w',E',hr,hv,ht⟩:=h;exact ⟨.value v',v',w',E',by simp [hr],.inl rfl,hv,ht⟩
section
variable {P:Program} {E:Gh} {S S':St} {w:World}
theorem ZaX.same {s:Sem Value} {v:AV} {v':Value} (hr:HR E S.heap.get w) (pr:PR E w) (hrun:s.run P w=.ok v' w) (hv:VR E v v'):ZaX P s E S w v S:=
 ⟨v',w,E,hrun,hv,ZaZ.refl _ hr pr⟩
def Zcj (P:Program) (s:Sem Value) (E:Gh) (w:World) (v:AV):Prop:=∃ v',s.run P w=.ok v' w/\VR E v v'
theorem Zcj.of {s:Sem Value} {v:AV} {v':Value} (hrun:s.run P w=.ok v' w) (hv:VR E v v'):Zcj P s E w v:=⟨v',hrun,hv⟩
theorem Zcj.toV {s:Sem Value} {v:AV} (h:Zcj P s E w v) (hr:HR E S.heap.get w) (pr:PR E w):ZaX P s E S w v S:=by
 obtain ⟨v',h1,h2⟩:=h;exact ZaX.same hr pr h1 h2
theorem Zgw {x:AV} {n:Nat} {v:Value} (h:asN x=some n) (hv:VR E x v):∃ k,v=.int k n:=by
 unfold asN at h;split at h
 ·cases h;simp only [VR] at hv;exact ⟨_,hv⟩
 ·cases h
theorem Zjw {e:TE} {cs:List AV} {off:Nat} {x:AV} {vs:List Value} (h:ZeF e cs off=some x) (hr:VRP E cs vs) :
 (Zez e.und=true/\off+e.size<=max vs.length off/\VR E x (.agg ((vs.drop off).take e.size).toArray))\/(Zez e.und=false/\∃ v,vs[off]?=some v/\VR E x v):=by
 unfold ZeF at h;cases ha:Zez e.und<;>rw [ha] at h
 ·right;rw [Zan,Zlx] at h;obtain ⟨v,hv,hx⟩:=hr.get h;exact ⟨rfl,v,hv,hx⟩
 ·left;rw [Zag,Zaa] at h;obtain ⟨r,hs,hx⟩:=h;cases hx;obtain ⟨rfl,hl,hle⟩:=ZcL hs;have hlen:=hr.len;refine ⟨rfl,by omega,?_⟩;simp only [VR];refine ⟨_,rfl,?_,?_⟩
  ·simp only;exact VRP.takeR _ (VRP.take _ (VRP.drop _ hr)) (by omega)
  ·rw [hl];simp;simp at hl;omega
theorem Zck {n:Nat} {cs:List AV} (h:cellsOf S n=some cs):S.heap.get n=some (.cells cs):=by
 unfold cellsOf at h;rw [Zaa] at h;obtain ⟨b,hb,h⟩:=h;split at h
 ·cases h;exact hb
 ·cases h
theorem Ze0 {n:Nat} {es:List ME} {c:Nat} (h:ZaO S n=some (es,c)):S.heap.get n=some (.map es c):=by
 unfold ZaO at h;rw [Zaa] at h;obtain ⟨b,hb,h⟩:=h;split at h
 ·cases h;exact hb
 ·cases h
theorem HR.cells {n:Nat} {cs:List AV} (hr:HR E S.heap.get w) (h:cellsOf S n=some cs) :
 ∃ arr el fz,w.heap[E.blk n]?=some (.cells arr el fz)/\E.bsz n=arr.size/\(∀ i,i < arr.size->(decide (fz.1<=i)&&decide (i < fz.2))=false)/\VRP E cs (arr.toList.drop (E.sh n)):=by
 obtain ⟨_,o,ho,hb⟩:=hr.blk n _ (Zck h);simp only [BR] at hb;obtain ⟨arr,el,fz,rfl,hs,hf,hv⟩:=hb;exact ⟨arr,el,fz,ho,hs,hf,hv⟩
theorem HR.reads {n:Nat} {cs:List AV} (hr:HR E S.heap.get w) (h:ZcK S n=some cs) :
 ∃ arr el fz,w.heap[E.blk n]?=some (.cells arr el fz)/\E.bsz n=arr.size/\VRP E cs (arr.toList.drop (E.sh n)):=by
 unfold ZcK at h;rw [Zaa] at h;obtain ⟨b,hb,h⟩:=h;obtain ⟨_,o,ho,hbr⟩:=hr.blk n _ hb;split at h
 ·cases h;simp only [BR] at hbr;obtain ⟨arr,el,fz,rfl,hs,_,hv⟩:=hbr;exact ⟨arr,el,fz,ho,hs,hv⟩
 ·cases h;simp only [BR] at hbr;obtain ⟨arr,el,fz,rfl,hs,_,hv⟩:=hbr;exact ⟨arr,el,fz,ho,hs,hv⟩
 ·cases h
theorem Zgx {t:TypeId} {e:TE} (he:te P t=some e) {b o:Nat} {arr:Array Value} {el:TypeId} {fz:Nat×Nat} (hw:w.heap[b]?=some (.cells arr el fz))
 {cs:List AV} {off:Nat} {x:AV} (h:ZeF e cs off=some x) (s:Nat) (hr:VRP E cs (arr.toList.drop s)) (ho:o=s+off) :
 ∃ v,(loadVar t ⟨b,o,none⟩).run P w=.ok v w/\VR E x v:=by
 subst ho;rcases Zjw h hr with ⟨ha,hle,hx⟩ | ⟨ha,v,hv,hx⟩
 ·refine ⟨_,?_,hx⟩;by_cases hz:e.size=0
  ·simp only [loadVar,Sem.run_bind,Zfo he,Result.andThen_ok,ha,if_true,ZbB he,Sem.run_ite,hz];simp [loadCells,loadCellsFrom]
  ·have:s+off+e.size<=arr.size:=by simp at hle;omega
   simp only [loadVar,Sem.run_bind,Zfo he,Result.andThen_ok,ha,if_true,ZbB he,Sem.run_ite,Zdn hw _ this];simp
 ·refine ⟨v,?_,hx⟩;rw [List.getElem?_drop] at hv;simp only [loadVar,Sem.run_bind,Zfo he,Result.andThen_ok,ha,Sem.run_ite,Bool.false_eq_true,if_false];exact Zgu hw (by simpa using hv)
theorem Zl2 {t:TypeId} {e:TE} (he:te P t=some e) {p x:AV} {v:Value} (h:Zd6 e S p=some x) (hp:VR E p v) (hr:HR E S.heap.get w) (pr:PR E w) :
 ∃ a u,v=.pointer (some a)/\(loadVar t a).run P w=.ok u w/\VR E x u:=by
 unfold Zd6 at h;split at h
 ·rename_i n off;rw [Zaa] at h;obtain ⟨cs,hc,h⟩:=h;simp only [VR] at hp;obtain ⟨_,rfl⟩:=hp;obtain ⟨arr,el,fz,hw,_,hv⟩:=hr.reads hc;obtain ⟨u,hu,hx⟩:=Zgx he hw h _ hv rfl;exact ⟨_,u,rfl,hu,hx⟩
 ·rename_i cs;simp only [VR] at hp;obtain ⟨b,o,rfl,arr,hprot,hv⟩:=hp;obtain ⟨el,fz,hw⟩:=pr.blk b arr hprot;obtain ⟨u,hu,hx⟩:=Zgx he hw h _ (VRP.mono (Ext.ofIce E) _ _ hv) rfl;exact ⟨_,u,rfl,hu,hx⟩
 ·cases h
theorem Zjx {t:TypeId} {e:TE} (he:te P t=some e) {p x:AV} {v:Value} (h:Zd6 e S p=some x) (hp:VR E p v) (hr:HR E S.heap.get w) (pr:PR E w) :
 Zcj P (Instr.loadAt t v) E w x:=by
 obtain ⟨a,u,rfl,hu,hx⟩:=Zl2 he h hp hr pr;exact Zcj.of (by simp [Instr.loadAt,Instr.sureAddr,hu]) hx
theorem all_one {xs:List AV} {vs:List Value} (hr:VRP E xs vs) (hl:xs.length=vs.length) (h:xs.all AV.one=true):∀ v∈vs,v.oneCell'=true:=by
 induction xs generalizing vs with
 | nil=>cases vs with
  | nil=>simp
  | cons _ _=>simp at hl
 | cons x xs ih=>cases vs with
  | nil=>simp at hl
  | cons v vs=>
   rw [VRP.cons_iff] at hr;simp only [List.all_cons,Bool.and_eq_true] at h;intro u hu;rcases List.mem_cons.1 hu with rfl | hu
   ·exact hr.1.one h.1
   ·exact ih hr.2 (by simpa using hl) h.2 u hu
theorem Zjy {n off:Nat} {cs new r:List AV} {us:List Value} (hc:cellsOf S n=some cs) (ho:over cs off new=some r) (hu:VRP E new us) (hl:new.length=us.length)
 (hone:new.all AV.one=true) (hr:HR E S.heap.get w) (pr:PR E w) {h':Nat->Option AB} (hh:∀ m,h' m=if m=n then some (.cells r) else S.heap.get m) (x:Nat) :
 ∃ w',(storeCells ⟨E.blk n,E.sh n+off,none⟩ us).run P w=.ok () w'/\ZaZ E S.heap.get w x E h' w' x:=by
 obtain ⟨arr,el,fz,hw,hs,hf,hv⟩:=hr.cells hc;have hlen:=ZfZ ho;have hvl:=hv.len;by_cases hz:us=[]
 ·subst hz;refine ⟨w,rfl,?_⟩;have hn:new=[]:=by cases new with | nil=>rfl | cons _ _=>simp at hl
  have:∀ (cs:List AV) (off:Nat) (r:List AV),over cs off []=some r->r=cs:=by
   intro cs
   induction cs with
   | nil=>intro off r h;cases off<;>simp [over,Zet] at h;exact h
   | cons c cs ih=>
    intro off r h;cases off with
    | zero=>simp [over,Zet] at h;exact h.symm
    | succ k=>simp only [over,Zaa,injEq] at h;obtain ⟨r',hr',rfl⟩:=h;rw [ih k r' hr']
  subst hn;have e:=this cs off r ho;subst e;have:h'=S.heap.get:=by
   funext m;rw [hh];by_cases e:m=n
   ·rw [if_pos e,e,Zck hc]
   ·rw [if_neg e]
  rw [this];exact ZaZ.refl x hr pr
 ·have hpos:0 < us.length:=List.length_pos_iff.2 hz;have hroom:E.sh n+off+0+us.length<=arr.size:=by simp at hvl;omega
  obtain ⟨w',hrun,hheap,henv⟩:=ZcR (P:=P) (o:=E.sh n+off) us 0 w arr hw hf (all_one hu hl hone) hroom;refine ⟨w',hrun,ZaZ.set x hr pr (Zck hc) rfl hheap henv hh ?_⟩;simp only [BR];refine ⟨_,el,fz,rfl,?_,?_,?_⟩
  ·rw [Zci _ _ _ (by omega)];exact hs
  ·rw [Zci _ _ _ (by omega)];exact hf
  ·have:=Zin ho hv hu hl;have e:(ZbK arr (E.sh n+off+0) us).toList.drop (E.sh n)=(arr.toList.drop (E.sh n)).take off++us++(arr.toList.drop (E.sh n)).drop (off+us.length):=by
    unfold ZbK;simp only [Nat.add_zero,List.append_assoc];rw [List.drop_append_of_le_length (by simp;omega),List.drop_take];congr 1
    ·congr 1;omega
    ·rw [List.drop_drop];congr 2;omega
   rw [e];exact this
theorem ZmY {t:TypeId} {e:TE} (he:te P t=some e) {p x:AV} {v u:Value} (h:Zc6 e S p x=some S') (hp:VR E p v) (hx:VR E x u) (hr:HR E S.heap.get w) (pr:PR E w) :
 ∃ w',(Instr.storeAt t v u).run P w=.ok () w'/\ZaZ E S.heap.get w S.next E S'.heap.get w' S'.next:=by
 unfold Zc6 at h;split at h
 ·rename_i n off;simp only [Zaa,Zas,injEq,Bool.and_eq_true] at h;obtain ⟨cs,hc,_,⟨hsz,hone⟩,r,ho,rfl⟩:=h;simp only [VR] at hp;obtain ⟨_,rfl⟩:=hp;rw [Zad] at hsz;obtain ⟨h1,h2⟩:=hx.cells;obtain ⟨w',hrun,ht⟩:=Zjy (P:=P) (h':=(S.heap.put n (.cells r)).get) hc ho h1 (by simpa using h2) hone hr pr (fun m=>by rw [Tr.get_put]) S.next;refine ⟨w',?_,ht⟩;have hsize:u.cells.size=e.size:=by omega
  simp [Instr.storeAt,Instr.sureAddr,storeVar,ZbB he,hsize,hrun]
 ·cases h
theorem Zjz {b:AB} {o:Obj} {z:Nat} (hr:HR E S.heap.get w) (pr:PR E w) (hx:¬ E.dom S.next) (hb:BR (E.add S.next w.heap.size 0 z) S.next b o) {w':World} (hw:w'.heap=w.heap.push o) (he:Env w w') :
 ZaZ E S.heap.get w S.next (E.add S.next w.heap.size 0 z) (ZcW S b).heap.get w' (ZcW S b).next:=
 ZaZ.new hr pr hx hw he (fun n=>by simp only [ZcW,Tr.get_put]) hb
theorem BR.row {E':Gh} {n:Nat} {cs:List AV} {vs:Array Value} {el:TypeId} (hs:E'.bsz n=vs.size) (h0:E'.sh n=0) (h:VRP E' cs vs.toList):BR E' n (.cells cs) (.cells vs el):=by
 simp only [BR];refine ⟨vs,el,(0,0),rfl,hs,fun i _=>by simp,?_⟩;rw [h0];simpa using h
theorem Zio (E:Gh) (x b s z:Nat):(E.add x b s z).dom x/\(E.add x b s z).blk x=b/\(E.add x b s z).sh x=s/\(E.add x b s z).bsz x=z:=
 ⟨.inr rfl,if_pos rfl,if_pos rfl,if_pos rfl⟩
theorem ZbX {cs:List AV} {vs:Array Value} (el:TypeId) (hr:HR E S.heap.get w) (pr:PR E w) (hx:¬ E.dom S.next) (h:VRP E cs vs.toList) :
 ∃ a w' E',(newRow el vs).run P w=.ok a w'/\E'.dom S.next/\a=⟨E'.blk S.next,E'.sh S.next,none⟩/\E'.sh S.next=0/\E'.bsz S.next=vs.size/\ZaZ E S.heap.get w S.next E' (ZcW S (.cells cs)).heap.get w' (ZcW S (.cells cs)).next:=by
 obtain ⟨a1,a2,a3,a4⟩:=Zio E S.next w.heap.size 0 vs.size;refine ⟨⟨w.heap.size,0,none⟩,_,E.add S.next w.heap.size 0 vs.size,by simp only [newRow,Sem.run_bind,run_newObj,Result.andThen_ok];rfl,a1,by rw [a2,a3],a3,a4,?_⟩;exact Zjz hr pr hx (BR.row a4 a3 (VRP.mono (Ext.add hx _ _ _) _ _ h)) rfl ⟨rfl,rfl,rfl⟩
theorem ZmZ {t:TypeId} {e:TE} (he:te P t=some e) (hr:HR E S.heap.get w) (pr:PR E w) (hx:¬ E.dom S.next) :
 ZaX P (Instr.alloc t true (.tuple #[])) E S w (.mp S.next 0) (ZcW S (.cells e.zero.cells)):=by
 obtain ⟨z,hz,hzr⟩:=ZfA he;obtain ⟨a,w',E',hrun,h1,h2,h3,_,ht⟩:=ZbX (P:=P) t hr pr hx (Zd4 E hz).cells.1;refine ⟨.pointer (some a),w',E',?_,?_,ht⟩
 ·simp [Instr.alloc,hzr,newVar,hrun]
 ·simp only [VR];exact ⟨h1,by rw [h2];simp⟩
theorem Zip {t:TypeId} {e:TE} {v:AV} (he:te P t=some e) (h:Zcw P e S=some (v,S')) (hr:HR E S.heap.get w) (pr:PR E w) (hx:¬ E.dom S.next) :
 S'=ZcW S (.cells e.zero.cells)/\ZaX P (Instr.alloc t true (.tuple #[])) E S w v S':=by
 unfold Zcw at h;split at h
 ·rename_i m el hu;simp only [Zaa,Zas,injEq,Prod.mk.injEq,Zad] at h;obtain ⟨g,hg,_,hl,rfl,rfl⟩:=h;refine ⟨rfl,?_⟩;obtain ⟨z,hz,hzr⟩:=ZfA he;obtain ⟨a,w',E',hrun,h1,h2,h3,h4,ht⟩:=ZbX (P:=P) t hr pr hx (Zd4 E hz).cells.1;have h5:=(Zd4 E hz).cells.2;refine ⟨.pointer (some a),w',E',?_,?_,ht⟩
  ·simp [Instr.alloc,hzr,newVar,hrun]
  ·simp only [VR];exact ⟨h1,by rw [h2],by rw [h3,h4];omega⟩
 ·cases h
theorem ZqI {t:TypeId} {x:AV} {v:Value} (hv:VR E x v) (hr:HR E S.heap.get w) (pr:PR E w) (hx:¬ E.dom S.next) :
 ZaX P (Instr.box t v) E S w (.mp S.next 0) (ZcW S (.cells x.cells)):=by
 obtain ⟨a,w',E',hrun,h1,h2,h3,_,ht⟩:=ZbX (P:=P) t hr pr hx hv.cells.1;refine ⟨.pointer (some a),w',E',?_,?_,ht⟩
 ·simp [Instr.box,newVar,hrun]
 ·simp only [VR];exact ⟨h1,by rw [h2];simp⟩
def Ze1 (E:Gh):List (Nat×AV)->List (Nat×Value)->Prop
 | [],[]=>True
 | p::ps,q::qs=>p.1=q.1/\VR E p.2 q.2/\Ze1 E ps qs
 | _,_=>False
theorem Zj0:∀ (us:List Value) (k off:Nat) (arr:Array Value),off+k+us.length<=arr.size ->
 ((us.zipIdx k).foldl (fun cs (p:Value×Nat)=>cs.setIfInBounds (off+p.2) p.1) arr)=ZbK arr (off+k) us
 | [],k,off,arr,_=>by simp [Zgv]
 | u::us,k,off,arr,h=>by
  simp only [List.zipIdx_cons,List.foldl_cons];rw [Zj0 us (k+1) off _ (by simp at h |-;omega),show off+(k+1)=off+k+1 from by omega,Zf9 _ _ _ _ (by simpa using h)]
theorem Ze1.mono {E E':Gh} (x:Ext E E'):∀ (ps:List (Nat×AV)) (qs:List (Nat×Value)),Ze1 E ps qs->Ze1 E' ps qs
 | [],[],h=>h
 | [],_::_,h=>by simp only [Ze1] at h
 | _::_,[],h=>by simp only [Ze1] at h
 | p::ps,q::qs,h=>by
  simp only [Ze1] at h |-
  exact ⟨h.1,VR.mono x _ _ h.2.1,Ze1.mono x ps qs h.2.2⟩
theorem Zga {place place':Nat->Option (Nat×Nat)} (hp:∀ i p,place i=some p->place' i=some p) :
 ∀ (parts:List (Nat×AV)) (qs:List (Nat×Value)) (cells r:List AV) (arr:Array Value),ZeG place cells parts=some r->Ze1 E parts qs->VRP E cells arr.toList->cells.length=arr.size ->
  ∃ arr',Instr.fill place' arr qs=some arr'/\VRP E r arr'.toList/\r.length=arr'.size
 | [],[],cells,r,arr,h,_,hc,hl=>by
  simp only [ZeG,injEq] at h;subst h;exact ⟨arr,rfl,hc,hl⟩
 | [],_::_,_,_,_,_,hq,_,_=>by simp only [Ze1] at hq
 | _::_,[],_,_,_,_,hq,_,_=>by simp only [Ze1] at hq
 | (i,x)::parts,(j,v)::qs,cells,r,arr,h,hq,hc,hl=>by
  simp only [Ze1] at hq;obtain ⟨rfl,hx,hq⟩:=hq;simp only [ZeG,Zaa,Zas] at h;obtain ⟨⟨off,size⟩,hpl,_,hsz,r1,ho,h⟩:=h;rw [Zad] at hsz;simp only at hsz ho;obtain ⟨h1,h2⟩:=hx.cells;have hol:=ZfZ ho;have hov:=Zin ho hc h1 (by simpa using h2);have hroom:off+v.cells.size<=arr.size:=by omega
  obtain ⟨arr',hf,hr',hl'⟩:=Zga hp parts qs r1 r (ZbK arr off v.cells.toList) h hq (by
   unfold ZbK;simpa using hov) (by rw [Zci _ _ _ (by simpa using hroom)];omega)
  refine ⟨arr',?_,hr',hl'⟩;simp only [Instr.fill,hp i _ hpl];rw [if_neg (by simp;omega)];have:=Zj0 v.cells.toList 0 off arr (by simpa using hroom);rw [<-Array.foldl_toList,Array.toList_zipIdx];simp only [Nat.add_zero] at this;rw [this];exact hf
theorem Zh7:∀ {fs:List Field} {ps:List (Nat×Nat)},Zdj P fs=some ps->(fs.mapM fun f=>Prod.mk f.offset <$> sizeOf f.type).run P w=.ok ps w
 | [],ps,h=>by simp only [Zdj,injEq] at h;subst h;rfl
 | f::fs,ps,h=>by
  simp only [Zdj,Zaa,injEq] at h;obtain ⟨g,hg,r,hr,rfl⟩:=h;simp [List.mapM_cons,ZbB hg,Zh7 hr]
theorem Zod {t:TypeId} {parts:List (Nat×AV)} {qs:Array (Nat×Value)} {x:AV} (h:Zly P t parts=some x) (hq:Ze1 E parts qs.toList) :
 ∃ v,(∀ w,(Instr.build t qs).run P w=.ok v w)/\VR E x v:=by
 simp only [Zly,Zaa] at h;obtain ⟨e,he,h⟩:=h;obtain ⟨z,hz,hzr⟩:=ZfA he;obtain ⟨hz1,hz2⟩:=(Zd4 E hz).cells;split at h
 ·rename_i fields hund;simp only [Zaa,injEq] at h;obtain ⟨ps,hps,r,hf,rfl⟩:=h;obtain ⟨arr',hfill,h1,h2⟩:=Zga (place':=fun i=>ps[i]?) (fun i p hp=>hp) _ _ _ _ _ hf hq hz1 (by simpa using hz2);refine ⟨.agg arr',fun w=>?_,by simp only [VR];exact ⟨_,rfl,h1,h2⟩⟩;have hm:(fields.mapM fun (f:Field)=>Prod.mk f.offset <$> sizeOf f.type).run P w=.ok ps.toArray w:=by
   rw [Array.mapM_eq_mapM_toList,Sem.run_map,Zh7 hps];rfl
  simp [Instr.build,hzr,Zby he,hund,hm,hfill]
 ·rename_i n elem hund;simp only [Zaa,injEq] at h;obtain ⟨g,hg,r,hf,rfl⟩:=h;obtain ⟨arr',hfill,h1,h2⟩:=Zga (place':=fun i=>some (i * g.size,g.size)) (fun i p hp=>hp) _ _ _ _ _ hf hq hz1 (by simpa using hz2);refine ⟨.agg arr',fun w=>?_,by simp only [VR];exact ⟨_,rfl,h1,h2⟩⟩;simp [Instr.build,hzr,Zby he,hund,ZbB hg,hfill]
 ·cases h
theorem Zh8:∀ (z:List Value) (n:Nat),z≠[]->((List.range (n * z.length)).map fun i=>z[i % z.length]!)=(List.replicate n z).flatten
 | z,0,_=>by simp
 | z,n+1,hz=>by
  have hl:0 < z.length:=List.length_pos_iff.2 hz;rw [Nat.add_mul,Nat.one_mul,Nat.add_comm,List.range_add,List.map_append,List.map_map,List.replicate_succ,List.flatten_cons];congr 1
  ·apply List.ext_getElem
   ·simp
   ·intro i h1 h2;simp at h1;simp [Nat.mod_eq_of_lt h1,h1]
  ·rw [<-Zh8 z n hz];apply List.map_congr_left;intro i _;simp
theorem Zl3 {zs:List AV} {z:List Value} (h:VRP E zs z) (hl:zs.length=z.length):∀ n,VRP E (Zhp zs n) (List.replicate n z).flatten/\(Zhp zs n).length=n * zs.length
 | 0=>by simp [Zhp,VRP.nil]
 | n+1=>by
  have ih:=Zl3 h hl n;simp only [Zhp,List.replicate_succ,List.flatten_cons,List.length_append,ih.2];exact ⟨VRP.append h hl ih.1,by rw [Nat.add_mul];omega⟩
theorem Zj1 {g:TE} {z:Value} (hz:cv z=some g.zero) (hg:g.zero.cells.length=g.size) (n:Nat) :
 VRP E (Zhp g.zero.cells n) ((Array.range (n * g.size)).map ((if n * g.size=0 then #[] else z.cells)[· % (if n * g.size=0 then #[] else z.cells).size]!)).toList /\
  (Zhp g.zero.cells n).length=n * g.size:=by
 obtain ⟨h1,h2⟩:=(Zd4 E hz).cells;have hr:=Zl3 h1 (by simpa using h2) n;refine ⟨?_,by rw [hr.2,hg]⟩;by_cases h0:n * g.size=0
 ·have:Zhp g.zero.cells n=[]:=List.eq_nil_of_length_eq_zero (by rw [hr.2,hg,h0]);rw [this];exact VRP.nil
 ·have hs:z.cells.size=g.size:=by omega
  have hne:z.cells.toList≠[]:=by
   intro e;have:z.cells.size=0:=by simpa using congrArg List.length e
   rw [hs] at this;rw [this] at h0;simp at h0
  have:=Zh8 z.cells.toList n hne;simp only [h0,if_false,Array.toList_map,Array.toList_range];have e:(List.range (n * g.size)).map (fun x=>z.cells[x % z.cells.size]!)=(List.replicate n z.cells.toList).flatten:=by
   rw [<-this,show z.cells.toList.length=g.size from by simpa using hs];apply List.map_congr_left;intro i _;rw [hs];simp [getElem!_def]
  rw [e];exact hr.1
theorem Zgy {t:TypeId} {len:Nat} {parts:List (Nat×AV)} {qs:Array (Nat×Value)} {x:AV} (h:Zb4 P S t len parts=some (x,S')) (hq:Ze1 E parts qs.toList)
 (hr:HR E S.heap.get w) (pr:PR E w) (hx:¬ E.dom S.next):ZaX P (Instr.buildSlice t len qs) E S w x S':=by
 simp only [Zb4,Zaa,Zas,Bool.and_eq_true,injEq,Prod.mk.injEq,Zah,Zad] at h;obtain ⟨e,he,elem,hel,g,hg,_,⟨hb,hgz⟩,r,hf,rfl,rfl⟩:=h;have hund:e.und=.slice elem:=by
  unfold Zcq at hel;split at hel<;>simp_all
 obtain ⟨z,hz,hzr⟩:=ZfA hg;obtain ⟨hz1,hz2⟩:=Zj1 (E:=E) hz hgz len;obtain ⟨arr',hfill,h1,h2⟩:=Zga (place':=fun i=>some (i * g.size,g.size)) (fun i p hp=>hp) _ _ _ _ _ hf hq hz1 (by rw [hz2];simp);obtain ⟨a,w',E',hrun,d1,d2,d3,d4,ht⟩:=ZbX (P:=P) elem hr pr hx h1;refine ⟨.slice (some a) len len,w',E',?_,?_,ht⟩
 ·have hno:¬ (len * g.size > 2 ^ 24):=by
   have:(2:Nat) ^ 24=16777216:=rfl;omega
  generalize hzc:(if len * g.size=0 then #[] else z.cells)=zc at hfill;simp only [Instr.buildSlice,Sem.run_bind,Zby he,hund,Result.andThen_ok,ZbB hg,bind_pure_comp];rw [if_neg hno];by_cases h0:len * g.size=0
  ·rw [if_pos h0] at hzc |-
   subst hzc;simp only [Sem.run_bind,Sem.run_pure,Result.andThen_ok,hfill,Sem.run_map,hrun]
  ·rw [if_neg h0] at hzc |-
   subst hzc;simp only [Sem.run_bind,hzr,Sem.run_pure,Result.andThen_ok,hfill,Sem.run_map,hrun]
 ·simp only [VR];have hlen:r.length=len * g.size:=by
   have:∀ (ps:List (Nat×AV)) (pl:Nat->Option (Nat×Nat)) (c r:List AV),ZeG pl c ps=some r->r.length=c.length:=by
    intro ps
    induction ps with
    | nil=>intro pl c r h;simp only [ZeG,injEq] at h;subst h;rfl
    | cons p ps ih=>
     intro pl c r h;obtain ⟨i,v⟩:=p;simp only [ZeG,Zaa,Zas] at h;obtain ⟨_,_,_,_,r1,ho,h⟩:=h;rw [ih _ _ _ h,(ZfZ ho).2]
   rw [this _ _ _ _ hf,hz2]
  refine ⟨d1,len,by rw [d2];simp,Nat.le_refl _,by rw [d3,d4];omega,fun k hk=>by cases hk;rfl⟩
theorem ZfB {n:Nat} (h:n<=big):IntKind.i64.wrap (n:Int)=n:=by
 unfold big at h;simp only [IntKind.wrap,IntKind.bits,IntKind.signed];have e:((n:Int) % (2 ^ 64:Int))=n:=Int.emod_eq_of_lt (by omega) (by omega);simp only [e];rw [if_neg];simp;omega
theorem Zhs {t:TypeId} {l c x:AV} {lv cv':Value} (h:Zb8 P S t l c=some (x,S')) (hl:VR E l lv) (hc:VR E c cv')
 (hr:HR E S.heap.get w) (pr:PR E w) (hx:¬ E.dom S.next):ZaX P (Instr.makeSlice t lv cv') E S w x S':=by
 simp only [Zb8,Zaa,Zas,Bool.and_eq_true,injEq,Prod.mk.injEq,Zah,Zad] at h;obtain ⟨n,hn,m,hm,e,he,elem,hel,g,hg,_,⟨⟨⟨hb1,hb2⟩,hb3⟩,hgz⟩,rfl,rfl⟩:=h;obtain ⟨k1,rfl⟩:=Zgw hn hl;obtain ⟨k2,rfl⟩:=Zgw hm hc;have hund:e.und=.slice elem:=by
  unfold Zcq at hel;split at hel<;>simp_all
 obtain ⟨z,hz,hzr⟩:=ZfA hg;obtain ⟨i,hi,hi1,hi2⟩:=Zoc hg;obtain ⟨hz1,hz2⟩:=Zj1 (E:=E) hz hgz m;obtain ⟨a,w',E',hrun,d1,d2,d3,d4,ht⟩:=ZbX (P:=P) elem hr pr hx hz1;have w1:=ZfB (Nat.le_trans hb1 hb3);have w2:=ZfB hb3;refine ⟨.slice (some a) n m,w',E',?_,?_,ht⟩
 ·have t1:¬ ((i.bytes:Int) * (m:Int) > 2 ^ 48):=by
   have h48:(2:Int) ^ 48=281474976710656:=rfl;rw [h48,hi2,<-Int.natCast_mul];unfold big at hb2;omega
  have t2:(decide ((m:Int) < 0)||decide ((n:Int) < 0)||decide ((n:Int) > (m:Int)))=false:=by
   simp;omega
  generalize hzc:(if m * g.size=0 then #[] else z.cells)=zc at hrun;simp only [Instr.makeSlice,Sem.run_bind,Zby he,hund,Result.andThen_ok,asInt,asIntOf,Sem.run_pure,hi,w1,w2,bind_pure_comp,Sem.run_map,t1,decide_false,Bool.or_false];rw [t2];simp only [Bool.false_eq_true,if_false,Sem.run_bind,run_askRoom,Result.andThen_ok,ZbB hg,Int.toNat_natCast];by_cases h0:m * g.size=0
  ·rw [if_pos h0] at hzc |-
   subst hzc;simp only [Sem.run_bind,Sem.run_pure,Result.andThen_ok,Sem.run_map,hrun]
  ·rw [if_neg h0] at hzc |-
   subst hzc;simp only [Sem.run_bind,hzr,Sem.run_pure,Result.andThen_ok,Sem.run_map,hrun]
 ·simp only [VR];refine ⟨d1,m,by rw [d2];simp,hb1,by rw [d3,d4];simp,fun k hk=>by cases hk;rfl⟩
end
end Go.Eng
