import Derived.Test.YtipafbfdjfbkbaaGreatDoorE2Op3
namespace Go.Eng
set_option linter.unusedVariables false
set_option linter.unusedSectionVars false
set_option linter.unusedSimpArgs false
section
variable [Gl] [Mx] {P:Program} {K:ZcY} {E:Zcn} {F:Fr} {a:Nat->AV} {fp:Nat->Nat->Prop} {s:S2} {T:Tm} {S:St} {α:Type} {k:K2 α} {r:α}
theorem Zr7 {k v:Ty} (hk:ZjV k=true) {d:TypeDesc} {tt:TypeId->Option Ty} {str:Bool} (hu:ZcJ tt str k d=true) (x y:k.den):ZnU d (k.enc x) (k.enc y)=some (ZaS k x y):=by
 cases k<;>simp only [ZjV,Bool.false_eq_true] at hk
 ·have:=ZdM hu;subst this;show (if _=_ then _ else _)=_;rw [if_pos rfl];rfl
 ·have:=ZcT hu;subst this;rfl
theorem ZsM {k:Ty} (hk:ZjV k=true) {d:TypeDesc} {tt:TypeId->Option Ty} {str:Bool} (hu:ZcJ tt str k d=true) (x:k.den):ZkC d (k.enc x)=true:=by
 cases k<;>simp only [ZjV,Bool.false_eq_true] at hk
 ·have:=ZdM hu;subst this;rfl
 ·have:=ZcT hu;subst this;rfl
theorem ZiJ {k v:Ty} (hk:ZjV k=true) {d:TypeDesc} {tt:TypeId->Option Ty} {str:Bool} (hu:ZcJ tt str k d=true) (x:k.den):∀ {es:List (k.den×v.den)} {cs:List ME},ZsG k v es cs->∀ i,
 (Zc3 (ZaS k) es x=none->Zd7 d (k.enc x) cs i=some none/\∀ y b,ZsG k v (ZfQ (ZaS k) es x y) (cs++[⟨k.enc x,v.enc y,b⟩])) /\
 (∀ w,Zc3 (ZaS k) es x=some w->∃ j,Zd7 d (k.enc x) cs i=some (some (i+j,v.enc w))/\∀ y,ZsG k v (ZfQ (ZaS k) es x y) (cs.modify j fun e=>{ e with key:=k.enc x,val:=v.enc y }))
 | [],[],.nil,i=>⟨fun _=>⟨rfl,fun y b=>.cons .nil⟩,fun w h=>by cases h⟩
 | (x',y')::es,⟨_,_,b⟩::cs,.cons h,i=>by
  obtain ⟨h1,h2⟩:=ZiJ hk hu x h (i+1);have e:=Zr7 (v:=v) hk hu x x';have hf:Zd7 d (k.enc x) (⟨k.enc x',v.enc y',b⟩::cs) i=bif ZaS k x x' then some (some (i,v.enc y')) else Zd7 d (k.enc x) cs (i+1):=by
   show (ZnU d (k.enc x) (k.enc x')).ob _=_;rw [e,Zap]
  rw [hf];cases hq:ZaS k x x' with
  | true=>
   refine ⟨fun hg=>?_,fun w hg=>⟨0,?_,fun y=>?_⟩⟩
   ·simp only [Zc3,hq,cond_true] at hg;cases hg
   ·simp only [Zc3,hq,cond_true,Option.some.injEq] at hg;rw [hg];rfl
   ·simp only [ZfQ,hq,cond_true,List.modify_zero_cons];exact .cons h
  | false=>
   refine ⟨fun hg=>?_,fun w hg=>?_⟩
   ·simp only [Zc3,hq,cond_false] at hg;obtain ⟨g1,g2⟩:=h1 hg;refine ⟨g1,fun y b'=>?_⟩;simp only [ZfQ,hq,cond_false,List.cons_append];exact .cons (g2 y b')
   ·simp only [Zc3,hq,cond_false] at hg;obtain ⟨j,g1,g2⟩:=h2 w hg;refine ⟨j+1,by rw [cond_false,g1];congr 3;omega,fun y=>?_⟩;simp only [ZfQ,hq,cond_false,List.modify_succ_cons];exact .cons (g2 y)
theorem Zpm {v:Ty} (hv:Zuk v=true) {x:v.den} {u:AV} (h:DR v x u):u=v.enc x:=by
 cases v<;>simp only [Zuk,Bool.false_eq_true] at hv
 ·exact DR.int h
 ·exact DR.bool h
 ·exact DR.str h
theorem Zr8 {v:Ty} (hv:Zuk v=true) (x:v.den):DR v x (v.enc x):=by
 cases v<;>simp only [Zuk,Bool.false_eq_true] at hv
 ·exact DR.mkint _ _
 ·exact DR.mkbool _
 ·exact DR.mkstr _
theorem ZsN {k:Ty} (h:ZjV k=true):Zuk k=true:=by cases k<;>first | rfl | cases h
theorem Zn3 (H:TyR P E) (R:Rel F a fp s T S) {t:TypeId} {n:Option Operand} (h:op2 E (.makeMap t n) s k=some r):Res F a fp s T S (opK P K (.makeMap t n) T S) k r:=by
 simp only [op2,Zak,Zaa] at h;obtain ⟨hn,kv,hkv,h⟩:=h;obtain ⟨a',fp',h1,h2,h3,R'⟩:=R.new (ck:=.map kv.1 kv.2 []) (b:=.map [] 0) (v:=.map S.next) rfl (fun a' ha'=>⟨S.next,[],0,rfl,rfl,by rw [Tr.get_put,if_pos rfl],.nil⟩);refine ⟨.mp s.nx,.map S.next,_,a',fp',_,?_,Nat.le_succ _,R',rfl,?_,h,Nat.le_succ _,fun c hc=>⟨h2 c hc,fun _=>h3 c hc⟩⟩
 ·simp only [opK,aOp,hn,chk,Zag,Zap]
 ·have:=VR2.mp (m:=s.nx+1) (a:=a') (c:=s.nx) (Nat.lt_succ_self _) (by rw [h1];rfl);rw [h1] at this;exact this
noncomputable def Zr9 (S:St) (c:AV):Option (List ME):=match c with
 | .nilm=>some []
 | .map n=>(ZaO S n).ob fun c=>some c.1
 | _=>none
theorem Zn4 {t:TypeId} {c q:AV} {ok:Bool} {e ek et:TE} {ke:TypeId×TypeId} (he:te P t=some e) (hm:Zjr e.und=some ke) (hek:te P ke.1=some ek) (het:te P ke.2=some et) (hk:ZkC ek.und q=true) :
 Zdk P S t c q ok=(Zr9 S c).ob fun es=>(Zd7 ek.und q es 0).ob fun r=>match r with
  | some (_,v)=>some (bif ok then .tup [v,.bool true] else v)
  | none=>some (bif ok then .tup [et.zero,.bool false] else et.zero):=by
 unfold Zdk Zr9;simp only [he,hm,hek,het,hk,chk,Zag,Zap];cases c<;>rfl
theorem Zpn (H:TyR P E) (R:Rel F a fp s T S) {t:TypeId} {x i:Operand} {ok:Bool} (h:op2 E (.lookup t x i ok) s k=some r):Res F a fp s T S (opK P K (.lookup t x i ok) T S) k r:=by
 simp only [op2,Zaa] at h;obtain ⟨v,h1,w,h2,h⟩:=h;obtain ⟨c,e1,r1⟩:=Zbd R h1;obtain ⟨d,e2,r2⟩:=Zbd R h2;have ho:opK P K (.lookup t x i ok) T S=(Zdk P S t c d ok).ob fun v=>some (v,S):=by simp only [opK,aOp,e1,e2,Zap]
 rw [ho];unfold ZoH at h;simp only [Zaa,Zak,Bool.and_eq_true] at h;obtain ⟨kv,hkv,⟨hk1,hk2⟩,h⟩:=h;obtain ⟨kt,vt⟩:=kv;dsimp only at hk1 hk2 h;obtain ⟨e,ke,et,he,hm,hke,het,hz⟩:=H.mt t kt vt hkv;obtain ⟨ek,hek,okk⟩:=H.ok _ _ hke;split at h
 ·rename_i j x0;cases r2 with | dat dd=>
  simp only [Zaa] at h;obtain ⟨key,hkey,z,hzz,h⟩:=h;obtain ⟨ej,hkey⟩:=Zal hkey;subst ej;have hkey:x0=key:=hkey;subst hkey;have hd:=Zpm (ZsN hk1) dd;subst hd;have hz0:=hz z hzz;rw [Zn4 he hm hek het (ZsM hk1 okk.und x0)];have fin:∀ (o:Option vt.den) (es:List ME),(Zd7 ek.und (j.enc x0) es 0=match o with | some y=>(Zd7 ek.und (j.enc x0) es 0) | none=>some none)->(∀ y,o=some y->∃ n,Zd7 ek.und (j.enc x0) es 0=some (some (n,vt.enc y)))->(bc ok (k (.tup [.dat vt (o.getD z),.dat .bool o.isSome]) s) (k (.dat vt (o.getD z)) s)=some r) ->
   Res F a fp s T S (((Zd7 ek.und (j.enc x0) es 0).ob fun r=>match r with
   | some (_,v)=>some (bif ok then .tup [v,.bool true] else v)
   | none=>some (bif ok then .tup [et.zero,.bool false] else et.zero)).ob fun v=>some (v,S)) k r:=by
   intro o es hn hy hk;cases o with
   | none=>
    rw [hn,Zap,Zap,hz0];cases ok
    ·exact Res.val R rfl (.dat (Zr8 hk2 z)) hk
    ·exact Res.val R rfl (.tup (.cons (.dat (Zr8 hk2 z)) (.cons (.dat (DR.mkbool _)) .nil))) hk
   | some y=>
    obtain ⟨n,hf⟩:=hy y rfl;rw [hf,Zap,Zap];cases ok
    ·exact Res.val R rfl (.dat (Zr8 hk2 y)) hk
    ·exact Res.val R rfl (.tup (.cons (.dat (Zr8 hk2 y)) (.cons (.dat (DR.mkbool _)) .nil))) hk
  split at h
  ·rename_i cc;split at h
   ·rename_i k' v' m hmc;simp only [Zaa] at h;obtain ⟨m',hm',h⟩:=h;obtain ⟨e3,hm'⟩:=Za1 hm';cases e3;have hm':m=m':=hm';subst hm';obtain ⟨n,cs,clk,g1,g2,g3,g4⟩:=R.chunks _ _ hmc;cases r1 with | mp hcc ho1=>
    rw [g1];have hen:ZaO S n=some (cs,clk):=by unfold ZaO;rw [g3];rfl
    have hes:Zr9 S (.map n)=some cs:=by show (ZaO S n).ob _=_;rw [hen,Zap]
    rw [hes,Zap];obtain ⟨f1,f2⟩:=ZiJ hk1 okk.und x0 g4 0;refine fin (Zc3 (ZaS j) m x0) cs ?_ (fun y hy=>?_) h
    ·cases hg:Zc3 (ZaS j) m x0 with
     | none=>exact (f1 hg).1
     | some y=>rfl
    ·obtain ⟨q,hq,_⟩:=f2 y hy;exact ⟨_,hq⟩
   ·cases h
  ·cases r1;rw [show Zr9 S .nilm=some [] from rfl,Zap];exact fin none [] rfl (fun y hy=>by cases hy) h
  ·cases h
 ·cases h
theorem Zpo (H:TyR P E) (R:Rel F a fp s T S) {t:TypeId} {m i x:Operand} (h:op2 E (.mapUpdate t m i x) s k=some r):Res F a fp s T S (opK P K (.mapUpdate t m i x) T S) k r:=by
 simp only [op2,Zaa] at h;obtain ⟨v,h1,w,h2,y,h3,h⟩:=h;obtain ⟨c,e1,r1⟩:=Zbd R h1;obtain ⟨d,e2,r2⟩:=Zbd R h2;obtain ⟨b,e3,r3⟩:=Zbd R h3;have ho:opK P K (.mapUpdate t m i x) T S=(ZdG P S t c d b).ob fun S'=>some (.tup [],S'):=by simp only [opK,aOp,e1,e2,e3,Zap]
 rw [ho];unfold ZoI at h;simp only [Zaa,Zak,Bool.and_eq_true] at h;obtain ⟨kv,hkv,⟨hk1,hk2⟩,h⟩:=h;obtain ⟨kt,vt⟩:=kv;dsimp only at hk1 hk2 h;obtain ⟨e,ke,et,he,hm,hke,het,hz⟩:=H.mt t kt vt hkv;obtain ⟨ek,hek,okk⟩:=H.ok _ _ hke;split at h
 ·rename_i cc j x0 j' y0;cases r2 with | dat dd=>
  cases r3 with | dat dy=>
  simp only [Zaa] at h;obtain ⟨key,hkey,val,hval,h⟩:=h;obtain ⟨ej,hkey⟩:=Zal hkey;subst ej;have hkey:x0=key:=hkey;subst hkey;obtain ⟨ej,hval⟩:=Zal hval;subst ej;have hval:y0=val:=hval;subst hval;have hd:=Zpm (ZsN hk1) dd;subst hd;have hb:=Zpm hk2 dy;subst hb;split at h
  ·rename_i k' v' mm hmc;simp only [Zaa] at h;obtain ⟨m',hm',h⟩:=h;obtain ⟨e4,hm'⟩:=Za1 hm';cases e4;have hm':mm=m':=hm';subst hm';obtain ⟨n,cs,clk,g1,g2,g3,g4⟩:=R.chunks _ _ hmc;cases r1 with | mp hcc ho1=>
   rw [g1];have hen:ZaO S n=some (cs,clk):=by unfold ZaO;rw [g3];rfl
   obtain ⟨f1,f2⟩:=ZiJ hk1 okk.und x0 g4 0;have go:∀ cs' clk',ZsG j j' (ZfQ (ZaS j) mm x0 y0) cs'->ZdG P S t (.map n) (j.enc x0) (j'.enc y0)=some { S with heap:=S.heap.put n (.map cs' clk') }->Res F a fp s T S ((ZdG P S t (.map n) (j.enc x0) (j'.enc y0)).ob fun S'=>some (.tup [],S')) k r:=fun cs' clk' hM hA=>by
    have R':=R.set (S':={ S with heap:=S.heap.put n (.map cs' clk') }) hmc rfl (ck':=.map j j' (ZfQ (ZaS j) mm x0 y0)) (fun n' _ hn'=>by
     show (S.heap.put n _).get n'=_;rw [Tr.get_put,if_neg (fun e=>hn' (by rw [e];exact g2))]) (Nat.le_refl _) (by
     refine ⟨n,cs',clk',g1,g2,?_,hM⟩;show (S.heap.put n _).get n=_;rw [Tr.get_put,if_pos rfl])
    exact ⟨.tup [],.tup [],Zs8 s cc (.map j j' (ZfQ (ZaS j) mm x0 y0)),a,fp,{ S with heap:=S.heap.put n (.map cs' clk') },by rw [hA,Zap],Nat.le_refl _,R',rfl,.tup .nil,h,Nat.le_refl _,fun c hc=>⟨rfl,fun _=>rfl⟩⟩
   have base:ZdG P S t (.map n) (j.enc x0) (j'.enc y0)=(Zd7 ek.und (j.enc x0) cs 0).ob fun r=>match r with
    | some (i,_)=>some { S with heap:=S.heap.put n (.map (cs.modify i fun e=>{ e with key:=j.enc x0,val:=j'.enc y0 }) clk) }
    | none=>some { S with heap:=S.heap.put n (.map (cs++[⟨j.enc x0,j'.enc y0,clk⟩]) (clk+1)) }:=by
    unfold ZdG;simp only [he,hm,hek,ZsM hk1 okk.und x0,chk,Zag,Zap,hen];generalize Zd7 ek.und (j.enc x0) cs 0=q;cases q with
    | none=>rfl
    | some o=>cases o<;>rfl
   cases hg:Zc3 (ZaS j) mm x0 with
   | none=>
    obtain ⟨q1,q2⟩:=f1 hg;exact go _ _ (q2 y0 clk) (by rw [base,q1,Zap])
   | some w0=>
    obtain ⟨q,q1,q2⟩:=f2 w0 hg;exact go _ clk (q2 y0) (by rw [base,q1,Zap,Nat.zero_add])
  ·cases h
 ·cases h
end
end Go.Eng
