/-
 The second engine: maps.
-/
import Derived.Test.YthbmchbhbpnojaaDoorE2Op3
namespace Go.Eng
set_option linter.unusedVariables false
set_option linter.unusedSectionVars false
set_option linter.unusedSimpArgs false
section
variable [Gl] [Mx] {P:Program} {K:CallK} {E:Env2} {F:Fr} {a:Nat->AV} {fp:Nat->Nat->Prop} {s:S2} {T:Tm} {S:St} {α:Type} {k:K2 α} {r:α}

theorem same_key {k v:Ty} (hk:isKey k=true) {d:TypeDesc} {tt:TypeId->Option Ty} {str:Bool} (hu:undOk tt str k d=true) (x y:k.den):sameK d (k.enc x) (k.enc y)=some (keyEq k x y):=by
 cases k<;>simp only [isKey,Bool.false_eq_true] at hk
 ·have:=und_int hu;subst this
  show (if _=_ then _ else _)=_
  rw [if_pos rfl];rfl
 ·have:=und_str hu;subst this
  rfl
theorem key_ok {k:Ty} (hk:isKey k=true) {d:TypeDesc} {tt:TypeId->Option Ty} {str:Bool} (hu:undOk tt str k d=true) (x:k.den):keyOk d (k.enc x)=true:=by
 cases k<;>simp only [isKey,Bool.false_eq_true] at hk
 ·have:=und_int hu;subst this;rfl
 ·have:=und_str hu;subst this;rfl
theorem findE_ok {k v:Ty} (hk:isKey k=true) {d:TypeDesc} {tt:TypeId->Option Ty} {str:Bool} (hu:undOk tt str k d=true) (x:k.den):∀ {es:List (k.den×v.den)} {cs:List ME},MapR k v es cs->∀ i,
 (mGet (keyEq k) es x=none->findE d (k.enc x) cs i=some none/\∀ y b,MapR k v (mPut (keyEq k) es x y) (cs++[⟨k.enc x,v.enc y,b⟩])) /\
 (∀ w,mGet (keyEq k) es x=some w->∃ j,findE d (k.enc x) cs i=some (some (i+j,v.enc w))/\∀ y,MapR k v (mPut (keyEq k) es x y) (cs.modify j fun e=>{ e with key:=k.enc x,val:=v.enc y }))
 | [],[],.nil,i=>⟨fun _=>⟨rfl,fun y b=>.cons .nil⟩,fun w h=>by cases h⟩
 | (x',y')::es,⟨_,_,b⟩::cs,.cons h,i=>by
  obtain ⟨h1,h2⟩:=findE_ok hk hu x h (i+1)
  have e:=same_key (v:=v) hk hu x x'
  have hf:findE d (k.enc x) (⟨k.enc x',v.enc y',b⟩::cs) i=bif keyEq k x x' then some (some (i,v.enc y')) else findE d (k.enc x) cs (i+1):=by
   show (sameK d (k.enc x) (k.enc x')).ob _=_
   rw [e,ob_s]
  rw [hf]
  cases hq:keyEq k x x' with
  | true=>
   refine ⟨fun hg=>?_,fun w hg=>⟨0,?_,fun y=>?_⟩⟩
   ·simp only [mGet,hq,cond_true] at hg;cases hg
   ·simp only [mGet,hq,cond_true,Option.some.injEq] at hg;rw [hg];rfl
   ·simp only [mPut,hq,cond_true,List.modify_zero_cons];exact .cons h
  | false=>
   refine ⟨fun hg=>?_,fun w hg=>?_⟩
   ·simp only [mGet,hq,cond_false] at hg
    obtain ⟨g1,g2⟩:=h1 hg
    refine ⟨g1,fun y b'=>?_⟩
    simp only [mPut,hq,cond_false,List.cons_append]
    exact .cons (g2 y b')
   ·simp only [mGet,hq,cond_false] at hg
    obtain ⟨j,g1,g2⟩:=h2 w hg
    refine ⟨j+1,by rw [cond_false,g1];congr 3;omega,fun y=>?_⟩
    simp only [mPut,hq,cond_false,List.modify_succ_cons]
    exact .cons (g2 y)
theorem sc_enc {v:Ty} (hv:isSc v=true) {x:v.den} {u:AV} (h:DR v x u):u=v.enc x:=by
 cases v<;>simp only [isSc,Bool.false_eq_true] at hv
 ·exact DR.int h
 ·exact DR.bool h
 ·exact DR.str h
theorem sc_dr {v:Ty} (hv:isSc v=true) (x:v.den):DR v x (v.enc x):=by
 cases v<;>simp only [isSc,Bool.false_eq_true] at hv
 ·exact DR.mkint _ _
 ·exact DR.mkbool _
 ·exact DR.mkstr _
theorem key_sc {k:Ty} (h:isKey k=true):isSc k=true:=by cases k<;>first | rfl | cases h

theorem makeMap_ok (H:TyR P E) (R:Rel F a fp s T S) {t:TypeId} {n:Option Operand} (h:op2 E (.makeMap t n) s k=some r):Res F a fp s T S (opK P K (.makeMap t n) T S) k r:=by
 simp only [op2,bc_some,ob_some] at h
 obtain ⟨hn,kv,hkv,h⟩:=h
 obtain ⟨a',fp',h1,h2,h3,R'⟩:=R.new (ck:=.map kv.1 kv.2 []) (b:=.map [] 0) (v:=.map S.next) rfl (fun a' ha'=>⟨S.next,[],0,rfl,rfl,by rw [Tr.get_put,if_pos rfl],.nil⟩)
 refine ⟨.mp s.nx,.map S.next,_,a',fp',_,?_,Nat.le_succ _,R',rfl,?_,h,Nat.le_succ _,fun c hc=>⟨h2 c hc,fun _=>h3 c hc⟩⟩
 ·simp only [opK,aOp,hn,chk,bc_true,ob_s]
 ·have:=VR2.mp (m:=s.nx+1) (a:=a') (c:=s.nx) (Nat.lt_succ_self _) (by rw [h1];rfl)
  rw [h1] at this;exact this
noncomputable def mapEs (S:St) (c:AV):Option (List ME):=match c with
 | .nilm=>some []
 | .map n=>(entriesOf S n).ob fun c=>some c.1
 | _=>none
theorem lookupA_eq {t:TypeId} {c q:AV} {ok:Bool} {e ek et:TE} {ke:TypeId×TypeId} (he:te P t=some e) (hm:mapOf e.und=some ke) (hek:te P ke.1=some ek) (het:te P ke.2=some et) (hk:keyOk ek.und q=true) :
 lookupA P S t c q ok=(mapEs S c).ob fun es=>(findE ek.und q es 0).ob fun r=>match r with
  | some (_,v)=>some (bif ok then .tup [v,.bool true] else v)
  | none=>some (bif ok then .tup [et.zero,.bool false] else et.zero):=by
 unfold lookupA mapEs
 simp only [he,hm,hek,het,hk,chk,bc_true,ob_s]
 cases c<;>rfl
theorem lookup_ok (H:TyR P E) (R:Rel F a fp s T S) {t:TypeId} {x i:Operand} {ok:Bool} (h:op2 E (.lookup t x i ok) s k=some r):Res F a fp s T S (opK P K (.lookup t x i ok) T S) k r:=by
 simp only [op2,ob_some] at h
 obtain ⟨v,h1,w,h2,h⟩:=h
 obtain ⟨c,e1,r1⟩:=ev_ok R h1
 obtain ⟨d,e2,r2⟩:=ev_ok R h2
 have ho:opK P K (.lookup t x i ok) T S=(lookupA P S t c d ok).ob fun v=>some (v,S):=by simp only [opK,aOp,e1,e2,ob_s]
 rw [ho]
 unfold lookup2 at h
 simp only [ob_some,bc_some,Bool.and_eq_true] at h
 obtain ⟨kv,hkv,⟨hk1,hk2⟩,h⟩:=h
 obtain ⟨kt,vt⟩:=kv
 dsimp only at hk1 hk2 h
 obtain ⟨e,ke,et,he,hm,hke,het,hz⟩:=H.mt t kt vt hkv
 obtain ⟨ek,hek,okk⟩:=H.ok _ _ hke
 split at h
 ·rename_i j x0
  cases r2 with | dat dd=>
  simp only [ob_some] at h
  obtain ⟨key,hkey,z,hzz,h⟩:=h
  obtain ⟨ej,hkey⟩:=castD_some hkey
  subst ej
  have hkey:x0=key:=hkey
  subst hkey
  have hd:=sc_enc (key_sc hk1) dd
  subst hd
  have hz0:=hz z hzz
  rw [lookupA_eq he hm hek het (key_ok hk1 okk.und x0)]
  have fin:∀ (o:Option vt.den) (es:List ME),(findE ek.und (j.enc x0) es 0=match o with | some y=>(findE ek.und (j.enc x0) es 0) | none=>some none)->(∀ y,o=some y->∃ n,findE ek.und (j.enc x0) es 0=some (some (n,vt.enc y)))->(bc ok (k (.tup [.dat vt (o.getD z),.dat .bool o.isSome]) s) (k (.dat vt (o.getD z)) s)=some r) ->
   Res F a fp s T S (((findE ek.und (j.enc x0) es 0).ob fun r=>match r with
   | some (_,v)=>some (bif ok then .tup [v,.bool true] else v)
   | none=>some (bif ok then .tup [et.zero,.bool false] else et.zero)).ob fun v=>some (v,S)) k r:=by
   intro o es hn hy hk
   cases o with
   | none=>
    rw [hn,ob_s,ob_s,hz0]
    cases ok
    ·exact Res.val R rfl (.dat (sc_dr hk2 z)) hk
    ·exact Res.val R rfl (.tup (.cons (.dat (sc_dr hk2 z)) (.cons (.dat (DR.mkbool _)) .nil))) hk
   | some y=>
    obtain ⟨n,hf⟩:=hy y rfl
    rw [hf,ob_s,ob_s]
    cases ok
    ·exact Res.val R rfl (.dat (sc_dr hk2 y)) hk
    ·exact Res.val R rfl (.tup (.cons (.dat (sc_dr hk2 y)) (.cons (.dat (DR.mkbool _)) .nil))) hk
  split at h
  ·rename_i cc
   split at h
   ·rename_i k' v' m hmc
    simp only [ob_some] at h
    obtain ⟨m',hm',h⟩:=h
    obtain ⟨e3,hm'⟩:=castD_list hm'
    cases e3
    have hm':m=m':=hm'
    subst hm'
    obtain ⟨n,cs,clk,g1,g2,g3,g4⟩:=R.chunks _ _ hmc
    cases r1 with | mp hcc ho1=>
    rw [g1]
    have hen:entriesOf S n=some (cs,clk):=by unfold entriesOf;rw [g3];rfl
    have hes:mapEs S (.map n)=some cs:=by show (entriesOf S n).ob _=_;rw [hen,ob_s]
    rw [hes,ob_s]
    obtain ⟨f1,f2⟩:=findE_ok hk1 okk.und x0 g4 0
    refine fin (mGet (keyEq j) m x0) cs ?_ (fun y hy=>?_) h
    ·cases hg:mGet (keyEq j) m x0 with
     | none=>exact (f1 hg).1
     | some y=>rfl
    ·obtain ⟨q,hq,_⟩:=f2 y hy
     exact ⟨_,hq⟩
   ·cases h
  ·cases r1
   rw [show mapEs S .nilm=some [] from rfl,ob_s]
   exact fin none [] rfl (fun y hy=>by cases hy) h
  ·cases h
 ·cases h
theorem mapUpd_ok (H:TyR P E) (R:Rel F a fp s T S) {t:TypeId} {m i x:Operand} (h:op2 E (.mapUpdate t m i x) s k=some r):Res F a fp s T S (opK P K (.mapUpdate t m i x) T S) k r:=by
 simp only [op2,ob_some] at h
 obtain ⟨v,h1,w,h2,y,h3,h⟩:=h
 obtain ⟨c,e1,r1⟩:=ev_ok R h1
 obtain ⟨d,e2,r2⟩:=ev_ok R h2
 obtain ⟨b,e3,r3⟩:=ev_ok R h3
 have ho:opK P K (.mapUpdate t m i x) T S=(mapUpdA P S t c d b).ob fun S'=>some (.tup [],S'):=by simp only [opK,aOp,e1,e2,e3,ob_s]
 rw [ho]
 unfold mapUpd2 at h
 simp only [ob_some,bc_some,Bool.and_eq_true] at h
 obtain ⟨kv,hkv,⟨hk1,hk2⟩,h⟩:=h
 obtain ⟨kt,vt⟩:=kv
 dsimp only at hk1 hk2 h
 obtain ⟨e,ke,et,he,hm,hke,het,hz⟩:=H.mt t kt vt hkv
 obtain ⟨ek,hek,okk⟩:=H.ok _ _ hke
 split at h
 ·rename_i cc j x0 j' y0
  cases r2 with | dat dd=>
  cases r3 with | dat dy=>
  simp only [ob_some] at h
  obtain ⟨key,hkey,val,hval,h⟩:=h
  obtain ⟨ej,hkey⟩:=castD_some hkey
  subst ej
  have hkey:x0=key:=hkey
  subst hkey
  obtain ⟨ej,hval⟩:=castD_some hval
  subst ej
  have hval:y0=val:=hval
  subst hval
  have hd:=sc_enc (key_sc hk1) dd
  subst hd
  have hb:=sc_enc hk2 dy
  subst hb
  split at h
  ·rename_i k' v' mm hmc
   simp only [ob_some] at h
   obtain ⟨m',hm',h⟩:=h
   obtain ⟨e4,hm'⟩:=castD_list hm'
   cases e4
   have hm':mm=m':=hm'
   subst hm'
   obtain ⟨n,cs,clk,g1,g2,g3,g4⟩:=R.chunks _ _ hmc
   cases r1 with | mp hcc ho1=>
   rw [g1]
   have hen:entriesOf S n=some (cs,clk):=by unfold entriesOf;rw [g3];rfl
   obtain ⟨f1,f2⟩:=findE_ok hk1 okk.und x0 g4 0
   have go:∀ cs' clk',MapR j j' (mPut (keyEq j) mm x0 y0) cs'->mapUpdA P S t (.map n) (j.enc x0) (j'.enc y0)=some { S with heap:=S.heap.put n (.map cs' clk') }->Res F a fp s T S ((mapUpdA P S t (.map n) (j.enc x0) (j'.enc y0)).ob fun S'=>some (.tup [],S')) k r:=fun cs' clk' hM hA=>by
    have R':=R.set (S':={ S with heap:=S.heap.put n (.map cs' clk') }) hmc rfl (ck':=.map j j' (mPut (keyEq j) mm x0 y0)) (fun n' _ hn'=>by
     show (S.heap.put n _).get n'=_
     rw [Tr.get_put,if_neg (fun e=>hn' (by rw [e];exact g2))]) (Nat.le_refl _) (by
     refine ⟨n,cs',clk',g1,g2,?_,hM⟩
     show (S.heap.put n _).get n=_
     rw [Tr.get_put,if_pos rfl])
    exact ⟨.tup [],.tup [],set2 s cc (.map j j' (mPut (keyEq j) mm x0 y0)),a,fp,{ S with heap:=S.heap.put n (.map cs' clk') },by rw [hA,ob_s],Nat.le_refl _,R',rfl,.tup .nil,h,Nat.le_refl _,fun c hc=>⟨rfl,fun _=>rfl⟩⟩
   have base:mapUpdA P S t (.map n) (j.enc x0) (j'.enc y0)=(findE ek.und (j.enc x0) cs 0).ob fun r=>match r with
    | some (i,_)=>some { S with heap:=S.heap.put n (.map (cs.modify i fun e=>{ e with key:=j.enc x0,val:=j'.enc y0 }) clk) }
    | none=>some { S with heap:=S.heap.put n (.map (cs++[⟨j.enc x0,j'.enc y0,clk⟩]) (clk+1)) }:=by
    unfold mapUpdA
    simp only [he,hm,hek,key_ok hk1 okk.und x0,chk,bc_true,ob_s,hen]
    generalize findE ek.und (j.enc x0) cs 0=q
    cases q with
    | none=>rfl
    | some o=>cases o<;>rfl
   cases hg:mGet (keyEq j) mm x0 with
   | none=>
    obtain ⟨q1,q2⟩:=f1 hg
    exact go _ _ (q2 y0 clk) (by rw [base,q1,ob_s])
   | some w0=>
    obtain ⟨q,q1,q2⟩:=f2 w0 hg
    exact go _ clk (q2 y0) (by rw [base,q1,ob_s,Nat.zero_add])
  ·cases h
 ·cases h
end
end Go.Eng
