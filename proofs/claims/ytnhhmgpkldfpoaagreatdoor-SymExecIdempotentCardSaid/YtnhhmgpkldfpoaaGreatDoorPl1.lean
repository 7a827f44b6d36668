import Derived.Test.YtnhhmgpkldfpoaaGreatDoorPl0
set_option linter.unusedSimpArgs false
set_option linter.unusedVariables false
set_option linter.unusedSectionVars false
open Go.IntKind (wrap)
open Option (bind_some)
open Nat (le_refl)
open List (mem_singleton mem_append getElem?_eq_getElem length_cons replicate length_append length_nil mem_cons take_add_one getElem_mem map_cons append_assoc mem_map nil_append length_take mem_of_getElem? getElem?_of_mem getElem?_map mem_of_mem_take map_append length_map)
open ByteArray (empty)
namespace Go.Dat
open Go.Eng
section
variable {V:List ByteArray}
theorem ZJz {A B:Bool} {J:Bool->Option Bool} (h:∀ b,J b=some true):(bif A then some (.inl B) else some (.inl false)).bind (Sum.elim J some)=some true:=by
 cases A<;>simp [h]
theorem ZNA (hV:∀ x∈V,x∈Zbf) {d w c:Nat} {y:SmT} (h:WS V d w c y):Ret (ZvY (ZGo y)) fun r=>r=true:=by
 obtain ⟨_,_,e3,e4⟩:=h.ex;unfold ZvY;refine Zac (fun s:Int=>∃ k:Nat,s=k/\k<=(ZGK y).length) (fun s=>(ZGK y).length - s.toNat) ?_ _ ⟨0,rfl,by omega⟩;rintro _ ⟨k,rfl,hk⟩;have hwk:=Zab k (by omega);unfold ZNi;rw [ZpI];refine ⟨fun hlt=>?_,fun hge=>?_⟩
 ·simp only [wq,reduceCtorEq,hwk] at hlt |-
  refine Zaj (by omega) hlt fun a ha ham=>?_;have hlt:(k:Int) < ((ZGK y).length:Int):=hlt;obtain ⟨c',ha'⟩:=e4 a ham;rw [Za4 (Zha hV ha')];exact ⟨fun h=>absurd h (by simp),fun _=>⟨⟨k+1,rfl,by omega⟩,by omega⟩⟩
 ·rw [ZpH];have hv:∀ nm∈V,Z0Q nm=some true:=fun nm h=>ZKE nm (hV nm h);have AB:∀ nm,nm=nmA\/nm=nmB->Z0Q nm=some true:=fun nm h=>ZKE nm (by rcases h with rfl | rfl<;>simp [Zbf]);have vF:Z0Q nmF=some true:=ZKE _ (by simp [Zbf]);have vG:Z0Q nmG=some true:=ZKE _ (by simp [Zbf]);cases h with
  | @asg _ _ _ nm _ h h1=>simp [ZGo,Zp8,Zp7,hv nm h,ZHp,ZKV,Zha hV h1,Ret,Zev]
  | @sto _ _ _ _ nm _ _ h h1 h2=>simp [ZGo,Zp8,Zta,AB nm h,ZHp,Zha hV h1,Zha hV h2,Ret,Zev]
  | ite h1 h2 h3=>exact ⟨true,ZJz fun b=>by simp [ZGo,Zp8,ZgR,ZNz,ZLJ,ZHp,ZKV,Zha hV h1],rfl⟩
  | whl h1 h2=>exact ⟨true,ZJz fun b=>by simp [ZGo,Zp8,ZNf,ZNz,ZLJ,ZHp,ZKV,Zha hV h1],rfl⟩
  | out h1=>simp [ZGo,Zp8,ZNg,ZNz,ZLJ,ZHp,ZKV,Zha hV h1,Ret,Zev]
  | @cal1 _ _ _ nm _ h h1=>simp [ZGo,Zp8,ZLZ,hv nm h,vG,ZHp,ZKV,Ret,Zev]
  | @cal2 _ _ _ _ nm _ _ h h1 h2=>simp [ZGo,Zp8,ZLZ,hv nm h,vF,ZHp,ZKV,Ret,Zev]
  | @trp _ _ _ n h h1=>simp [ZGo,Zp8,ZNh,ZHp,ZKV,h,h1,Ret,Zev]
theorem ZLE (hV:∀ x∈V,x∈Zbf):∀ (n d w c:Nat) (l:List SmT),WSL V d w c l->d < n->c<=1000->Ret (ZOD n l) fun r=>r=true
 | 0,d,w,c,l,h,hd,_=>by omega
 | n+1,d,w,c,l,h,hd,hc=>by
  have hl:=h.len;show Ret (Zao (ZMa l (ZOD n)) 0) _;refine Zac (fun s:Int=>∃ m w' c':Nat,s=m/\m<=l.length/\c'<=c/\WSL V d w' c' (l.drop m)) (fun s=>l.length - s.toNat) ?_ _ ⟨0,w,c,rfl,by omega,by omega,h⟩;rintro _ ⟨m,w',c',rfl,hm,hcc,hs⟩;have hw:=Zab m (by omega);simp only [ZMa,wq,reduceCtorEq,Sum.elim_inl,Sum.elim_inr];intro hlt;obtain ⟨y,w1,w2,c1,c2,hy,rfl,rfl,hy1,hy2⟩:=hs.step (by omega);have hg:gI l (m:Int)=some y:=by rw [Zax];exact hy
  obtain ⟨d',u1,u2,k1,k2,rfl,s1,s2,s3,s4⟩:=hy1.subs;rw [Za4 hg];refine Ret.mono (ZNA hV hy1) fun r _ hr=>⟨fun h=>absurd h (by simp [hr]),fun _=>?_⟩
  rw [Za4 hg];refine Ret.mono (ZLE hV n d' u1 k1 _ s1 (by omega) (by omega)) fun r _ hr=>⟨fun h=>absurd h (by simp [hr]),fun _=>?_⟩
  rw [Za4 hg];refine Ret.mono (ZLE hV n d' u2 k2 _ s2 (by omega) (by omega)) fun r _ hr=>?_;subst hr;simp only [ZHx,wq,reduceCtorEq,hw,Bool.not_true];exact ⟨⟨m+1,w2,c2,rfl,by omega,by omega,hy2⟩,by omega⟩
end
section
variable {V:List ByteArray} (x1:ScT) (hV:∀ x∈V,x∈x1.1) (hA:x1.2.1=[nmA,nmB]) (h1l:x1.1.length<=10) {n1 n2:Int} {b1 b2:List SmT} {v1 v2:ExW} (hp:x1.2.2=prF n1 n2 b1 b2 v1 v2)
include hV hA h1l hp
theorem ZNB {d w c:Nat} {y:SmT} (h:WS V d w c y):Ret (Z0t x1 (ZGo y)) fun r=>r=true:=by
 obtain ⟨e1,e2,e3,e4⟩:=h.ex;have dz:F66 x1 zE=some true:=by
  show Zao (ZIn x1 zE (N66 999)) 0=_;generalize N66 999=R;exact ZgS rfl
 have EZd:∀ {e},EZ V e->F66 x1 e=some true:=fun {e} h=>by
  rcases h with rfl | ⟨c,h⟩
  ·exact dz
  ·exact ZbF x1 hV hA h1l h
 unfold Z0t;refine Zac (fun s:Int=>∃ k:Nat,s=k/\k<=(ZGK y).length) (fun s=>(ZGK y).length - s.toNat) ?_ _ ⟨0,rfl,by omega⟩;rintro _ ⟨k,rfl,hk⟩;have hwk:=Zab k (by omega);unfold Zt3;rw [ZpI];refine ⟨fun hlt=>?_,fun hge=>?_⟩
 ·simp only [wq,reduceCtorEq,hwk] at hlt |-
  refine Zaj (by omega) hlt fun a ha ham=>?_;have hlt:(k:Int) < ((ZGK y).length:Int):=hlt;obtain ⟨c',ha'⟩:=e4 a ham;rw [Za4 (ZbF x1 hV hA h1l ha')];exact ⟨fun h=>absurd h (by simp),fun _=>⟨⟨k+1,rfl,by omega⟩,by omega⟩⟩
 ·rw [ZpH,Zmt,Zmt];have q1:F66 x1 (ZGo y).2.2.2.2.1=some true:=EZd e1;have q2:F66 x1 (ZGo y).2.2.2.2.2.1=some true:=EZd e2;rw [Za4 q1];simp only [Bool.not_true,cond_false];rw [Zmt,Za4 q2];simp only [Bool.not_true,ZaH,Sum.elim_inl,ZNj,cond_false,Zkj];have hv:∀ nm∈V,Z0r x1.1 nm=some true:=fun nm h=>ZLg (by omega) (hV nm h);have AB:∀ nm,nm=nmA\/nm=nmB->Z0r x1.2.1 nm=some true:=fun nm h=>ZLg (by rw [hA];simp) (by rw [hA];rcases h with rfl | rfl<;>simp);obtain ⟨fF,fG⟩:=ZvG n1 n2 b1 b2 v1 v2;cases h with
  | @asg _ _ _ nm _ h h1=>simp [ZGo,hv nm h,Ret]
  | @sto _ _ _ _ nm _ _ h h1 h2=>simp [ZGo,AB nm h,Ret]
  | ite h1 h2 h3=>simp [ZGo,Ret]
  | whl h1 h2=>simp [ZGo,Ret]
  | out h1=>simp [ZGo,Ret]
  | @cal1 _ _ _ nm _ h h1=>simp [ZGo,hv nm h,hp,fG,ZMb,Ret]
  | @cal2 _ _ _ _ nm _ _ h h1 h2=>simp [ZGo,hv nm h,hp,fF,ZMb,Ret]
  | trp h h1=>simp [ZGo,Ret]
theorem ZMy (counts:Bool):∀ (n d w c:Nat) (l:List SmT),WSL V d w c l->d < n->c<=1000->Ret (N65 n x1 l counts) fun r=>r=true
 | 0,d,w,c,l,h,hd,_=>by omega
 | n+1,d,w,c,l,h,hd,hc=>by
  have hl:=h.len;show Ret (Zao (ZAi x1 l counts (N65 n)) 0) _;refine Zac (fun s:Int=>∃ m w' c':Nat,s=m/\m<=l.length/\c'<=c/\WSL V d w' c' (l.drop m)) (fun s=>l.length - s.toNat) ?_ _ ⟨0,w,c,rfl,by omega,by omega,h⟩;rintro _ ⟨m,w',c',rfl,hm,hcc,hs⟩;have hw:=Zab m (by omega);unfold ZAi;rw [ZpI];refine ⟨fun hlt=>?_,fun hge=>⟨_,rfl,rfl⟩⟩;rw [decide_eq_true_eq] at hlt;obtain ⟨y,w1,w2,c1,c2,hy,rfl,rfl,hy1,hy2⟩:=hs.step (by omega);have hg:gI l (m:Int)=some y:=by rw [Zax];exact hy
  obtain ⟨d',u1,u2,k1,k2,rfl,s1,s2,s3,s4⟩:=hy1.subs;rw [Zmt,Za4 hg,Zmt];have tail:Ret (ZAj x1 counts (N65 n) m y ()) (Zev (fun s:Int=>∃ m w' c':Nat,s=m/\m<=l.length/\c'<=c/\WSL V (d'+1) w' c' (l.drop m)) (fun s=>l.length - s.toNat) (fun r=>r=true) (m:Int)):=by
   simp only [ZAj,wq,reduceCtorEq,Sum.elim_inl,Sum.elim_inr];refine Ret.mono (ZMy counts n d' u1 k1 _ s1 (by omega) (by omega)) fun r _ hr=>⟨fun h=>absurd h (by simp [hr]),fun _=>?_⟩
   refine Ret.mono (ZMy counts n d' u2 k2 _ s2 (by omega) (by omega)) fun r _ hr=>?_;subst hr;simp only [ZNZ,wq,reduceCtorEq,hw,Bool.not_true];exact ⟨⟨m+1,w2,c2,rfl,by omega,by omega,hy2⟩,by omega⟩
  cases counts with
  | true=>
   rw [cond_true,Zmt];have key:Ret (bif (ZGo y).1==6 then (Z0s x1.2.2 (ZGo y).2.2.1).bind fun r8=>(gI x1.2.2.2 r8).bind fun y9=>some (Sum.inl (β:=Unit⊕Int⊕Bool) ((((ZGo y).2.2.2.2.2.2.1).length:Int) != (y9.2.1.length:Int))) else some (.inl false)) fun r=>r=.inl false:=by
    obtain ⟨fF,fG⟩:=ZvG n1 n2 b1 b2 v1 v2;cases hy1 with
    | cal1 h h1=>simp [ZGo,hp,fG,Ret];simp [prF,gI]
    | cal2 h h1 h2=>simp [ZGo,hp,fF,Ret];simp [prF,gI]
    | _=>simp [ZGo,Ret]
   refine Ret.mono key fun r _ hr=>?_;subst hr;simp only [Sum.elim_inl,ZAh,cond_false,ZaH];exact tail
  | false=>
   rw [cond_false,Zmt];refine Ret.mono (ZNB x1 hV hA h1l hp hy1) fun r _ hr=>?_;subst hr;simp only [Bool.not_true,cond_false,ZaH,Sum.elim_inl];exact tail
end
theorem Z88 (n1 n2:Int) (b1 b2:List SmT) (v1 v2:ExW):F64 (prF n1 n2 b1 b2 v1 v2)=some false:=by
 refine Ret.eq ?_;show Ret (Zao (Z58 (prF n1 n2 b1 b2 v1 v2)) (0,[])) _;refine ZGn ?_;simp only [Z58,wq,reduceCtorEq,prF];refine ⟨fun _=>⟨_,rfl,ZK9 false (by simp) (show (List.any ([]:List ByteArray) fun y=>y.toList==nmA.toList)=false by decide +kernel) ⟨fun h=>absurd h (by simp),fun _=>⟨_,rfl,⟨fun _=>?_,fun h=>absurd h (by simp)⟩⟩⟩⟩,fun h=>absurd h (by simp)⟩;show Ret (Zao (Z58 (prF n1 n2 b1 b2 v1 v2)) (1,[nmA])) _;refine ZGn ?_;simp only [Z58,wq,reduceCtorEq,prF];refine ⟨fun _=>⟨_,rfl,ZK9 false (by simp) (show (List.any ([nmA]:List ByteArray) fun y=>y.toList==nmB.toList)=false by decide +kernel) ⟨fun h=>absurd h (by simp),fun _=>⟨_,rfl,⟨fun _=>?_,fun h=>absurd h (by simp)⟩⟩⟩⟩,fun h=>absurd h (by simp)⟩;show Ret (Zao (Z58 (prF n1 n2 b1 b2 v1 v2)) (2,[nmA,nmB])) _;refine ZGn ?_;simp only [Z58,wq,reduceCtorEq,prF];refine ⟨fun h=>absurd h (by simp),fun _=>?_⟩;show Ret (Zao (ZLA (prF n1 n2 b1 b2 v1 v2)) (0,[nmA,nmB],[])) _;refine ZGn ?_;simp only [ZLA,wq,reduceCtorEq,prF];refine fun _=>⟨_,rfl,ZK9 false (by simp) (show (List.any ([]:List ByteArray) fun y=>y.toList==nmF.toList)=false by decide +kernel) ⟨fun h=>absurd h (by simp),fun _=>⟨fun _=>⟨fun _=>⟨fun _=>⟨fun _=>?_,fun h=>absurd h (by simp)⟩,fun h=>absurd h (by simp)⟩,fun h=>absurd h (by simp)⟩,fun h=>absurd h (by simp)⟩⟩⟩
 show Ret (Zao (ZKO 0) (0,[nmA,nmB],[nmF],[nmA,nmB],[nmX,nmY,nmI,nmJ])) _;refine ZGn ?_;simp only [ZKO,wq,reduceCtorEq];refine ⟨fun _=>⟨_,rfl,⟨_,rfl,ZK9 false (by simp) (show (List.any ([nmA,nmB]:List ByteArray) fun y=>y.toList==nmX.toList)=false by decide +kernel) ⟨fun h=>absurd h (by simp),fun _=>⟨_,rfl,⟨_,rfl,⟨fun _=>?_,fun h=>absurd h (by simp)⟩⟩⟩⟩⟩⟩,fun h=>absurd h (by simp)⟩;show Ret (Zao (ZKO 0) (1,[nmA,nmB],[nmF],[nmA,nmB,nmX],[nmX,nmY,nmI,nmJ])) _;refine ZGn ?_;simp only [ZKO,wq,reduceCtorEq];refine ⟨fun _=>⟨_,rfl,⟨_,rfl,ZK9 false (by simp) (show (List.any ([nmA,nmB,nmX]:List ByteArray) fun y=>y.toList==nmY.toList)=false by decide +kernel) ⟨fun h=>absurd h (by simp),fun _=>⟨_,rfl,⟨_,rfl,⟨fun _=>?_,fun h=>absurd h (by simp)⟩⟩⟩⟩⟩⟩,fun h=>absurd h (by simp)⟩;show Ret (Zao (ZKO 0) (2,[nmA,nmB],[nmF],[nmA,nmB,nmX,nmY],[nmX,nmY,nmI,nmJ])) _;refine ZGn ?_;simp only [ZKO,wq,reduceCtorEq];refine ⟨fun _=>⟨_,rfl,⟨_,rfl,ZK9 false (by simp) (show (List.any ([nmA,nmB,nmX,nmY]:List ByteArray) fun y=>y.toList==nmI.toList)=false by decide +kernel) ⟨fun h=>absurd h (by simp),fun _=>⟨_,rfl,⟨_,rfl,⟨fun _=>?_,fun h=>absurd h (by simp)⟩⟩⟩⟩⟩⟩,fun h=>absurd h (by simp)⟩;show Ret (Zao (ZKO 0) (3,[nmA,nmB],[nmF],[nmA,nmB,nmX,nmY,nmI],[nmX,nmY,nmI,nmJ])) _;refine ZGn ?_;simp only [ZKO,wq,reduceCtorEq];refine ⟨fun _=>⟨_,rfl,⟨_,rfl,ZK9 false (by simp) (show (List.any ([nmA,nmB,nmX,nmY,nmI]:List ByteArray) fun y=>y.toList==nmJ.toList)=false by decide +kernel) ⟨fun h=>absurd h (by simp),fun _=>⟨_,rfl,⟨_,rfl,⟨fun _=>?_,fun h=>absurd h (by simp)⟩⟩⟩⟩⟩⟩,fun h=>absurd h (by simp)⟩;show Ret (Zao (ZKO 0) (4,[nmA,nmB],[nmF],[nmA,nmB,nmX,nmY,nmI,nmJ],[nmX,nmY,nmI,nmJ])) _;refine ZGn ?_;simp only [ZKO,wq,reduceCtorEq];refine ⟨fun h=>absurd h (by simp),fun _=>?_⟩;show Ret (Zao (ZLA (prF n1 n2 b1 b2 v1 v2)) (1,[nmA,nmB],[nmF])) _;refine ZGn ?_;simp only [ZLA,wq,reduceCtorEq,prF];refine fun _=>⟨_,rfl,ZK9 false (by simp) (show (List.any ([nmF]:List ByteArray) fun y=>y.toList==nmG.toList)=false by decide +kernel) ⟨fun h=>absurd h (by simp),fun _=>⟨fun _=>⟨fun _=>⟨fun _=>⟨fun _=>?_,fun h=>absurd h (by simp)⟩,fun h=>absurd h (by simp)⟩,fun h=>absurd h (by simp)⟩,fun h=>absurd h (by simp)⟩⟩⟩
 show Ret (Zao (ZKO 1) (0,[nmA,nmB],[nmF,nmG],[nmA,nmB],[nmN,nmI])) _;refine ZGn ?_;simp only [ZKO,wq,reduceCtorEq];refine ⟨fun _=>⟨_,rfl,⟨_,rfl,ZK9 false (by simp) (show (List.any ([nmA,nmB]:List ByteArray) fun y=>y.toList==nmN.toList)=false by decide +kernel) ⟨fun h=>absurd h (by simp),fun _=>⟨_,rfl,⟨_,rfl,⟨fun _=>?_,fun h=>absurd h (by simp)⟩⟩⟩⟩⟩⟩,fun h=>absurd h (by simp)⟩;show Ret (Zao (ZKO 1) (1,[nmA,nmB],[nmF,nmG],[nmA,nmB,nmN],[nmN,nmI])) _;refine ZGn ?_;simp only [ZKO,wq,reduceCtorEq];refine ⟨fun _=>⟨_,rfl,⟨_,rfl,ZK9 false (by simp) (show (List.any ([nmA,nmB,nmN]:List ByteArray) fun y=>y.toList==nmI.toList)=false by decide +kernel) ⟨fun h=>absurd h (by simp),fun _=>⟨_,rfl,⟨_,rfl,⟨fun _=>?_,fun h=>absurd h (by simp)⟩⟩⟩⟩⟩⟩,fun h=>absurd h (by simp)⟩;show Ret (Zao (ZKO 1) (2,[nmA,nmB],[nmF,nmG],[nmA,nmB,nmN,nmI],[nmN,nmI])) _;refine ZGn ?_;simp only [ZKO,wq,reduceCtorEq];refine ⟨fun h=>absurd h (by simp),fun _=>?_⟩;show Ret (Zao (ZLA (prF n1 n2 b1 b2 v1 v2)) (2,[nmA,nmB],[nmF,nmG])) _;refine ZGn ?_;simp only [ZLA,wq,reduceCtorEq,prF];intro h;exact absurd h (by simp)
structure ZK4 (y:FnT):Prop where
 v:∃ f w c,y.2.1++y.2.2.1=ZGp f/\w<=10/\c<=60/\FnP (ZGp f) w c y.2.2.2.1 y.2.2.2.2
 n:∀ nm∈[y.1]++y.2.1++y.2.2.1,nm∈Zbf
 l:y.2.1.length<=2/\y.2.2.1.length<=2
section
variable {n1 n2:Int} {b1 b2:List SmT} {v1 v2:ExW} {w1 w2 c1 c2:Nat} (h1:1<=n1/\n1<=4) (h2:1<=n2/\n2<=4) (hw:w1+w2<=10) (hc:c1+c2<=60) (f1:FnP (ZGp 0) w1 c1 b1 v1) (f2:FnP (ZGp 1) w2 c2 b2 v2)
include h1 h2 hw hc f1 f2
theorem ZHn:(∀ y∈(prF n1 n2 b1 b2 v1 v2).1,1<=y.2/\y.2<=16/\y.1∈Zbf)/\(∀ y∈(prF n1 n2 b1 b2 v1 v2).2,ZK4 y):=by
 refine ⟨fun y hy=>?_,fun y hy=>?_⟩
 ·rcases mem_cons.1 hy with rfl | hy
  ·exact ⟨h1.1,by have:=h1.2;show n1<=16;omega,by simp [Zbf]⟩
  ·obtain rfl:=mem_singleton.1 hy;exact ⟨h2.1,by have:=h2.2;show n2<=16;omega,by simp [Zbf]⟩
 ·rcases mem_cons.1 hy with rfl | hy
  ·exact ⟨⟨0,w1,c1,rfl,by omega,by omega,f1⟩,by simp [Zbf],by simp,by simp⟩
  ·obtain rfl:=mem_singleton.1 hy;exact ⟨⟨1,w2,c2,rfl,by omega,by omega,f2⟩,by simp [Zbf],by simp,by simp⟩
theorem ZOw:F62 (prF n1 n2 b1 b2 v1 v2)=some false:=by
 obtain ⟨hA,hF⟩:=ZHn h1 h2 hw hc f1 f2;have l1:(prF n1 n2 b1 b2 v1 v2).1.length=2:=rfl;have l2:(prF n1 n2 b1 b2 v1 v2).2.length=2:=rfl;refine Ret.eq ?_;generalize prF n1 n2 b1 b2 v1 v2=p at hA hF l1 l2;simp only [F62,Z8W,wq,reduceCtorEq,l1,l2];refine ⟨fun h=>absurd h (by simp),fun _=>⟨fun h=>absurd h (by simp),fun _=>?_⟩⟩;refine Zac (fun s:Int=>∃ k:Nat,s=k/\k<=2) (fun s=>2 - s.toNat) ?_ _ ⟨0,rfl,by omega⟩;rintro _ ⟨k,rfl,hk⟩;have hwk:=Zab k (by omega);simp only [ZA6,ZA5,wq,reduceCtorEq,l1,hwk];refine ⟨fun hlt=>Zaj (by omega) (by rw [l1];omega) fun a ha ham=>?_,fun hge=>?_⟩
 ·obtain ⟨a1,a2,a3⟩:=hA a ham;refine ⟨fun h=>absurd h (by omega),fun _=>?_⟩;rw [Za4 ha];exact ⟨fun h=>absurd h (by omega),fun _=>⟨⟨k+1,rfl,by omega⟩,by omega⟩⟩
 ·refine Zac (fun s:Int=>∃ k:Nat,s=k/\k<=2) (fun s=>2 - s.toNat) ?_ _ ⟨0,rfl,by omega⟩;rintro _ ⟨k,rfl,hk⟩;have hwk:=Zab k (by omega);simp only [ZNU,ZA4,wq,reduceCtorEq,l2,hwk];intro hlt;refine Zaj (by omega) (by rw [l2];omega) fun y hy hym=>?_;obtain ⟨⟨f,w,c,ev,ew,ec,d,k1,k2,ed,ek,es,ee⟩,en,el⟩:=hF y hym;refine Ret.mono (ZLC 1000 d w k1 _ 0 es (by omega) (by omega) (by omega) (by omega)) fun r _ ⟨r1,r2,r3⟩=>?_;refine ⟨fun h=>absurd h (by omega),fun _=>⟨fun h=>absurd h (by omega),fun _=>⟨fun h=>absurd h (by omega),fun _=>⟨fun h=>absurd h (by omega),fun _=>⟨fun h=>absurd h (by omega),fun _=>?_⟩⟩⟩⟩⟩;refine Ret.mono (ZLD 1000 d w k1 _ es (by omega) (by omega)) fun r _ hr=>⟨fun h=>absurd h (by simp [hr]),fun _=>?_⟩
  refine Ret.mono (ZvM ee) fun r _ hr=>?_;exact ⟨fun h=>absurd h (by omega),fun _=>⟨⟨k+1,rfl,by omega⟩,by omega⟩⟩
theorem ZBe:F63 (prF n1 n2 b1 b2 v1 v2)=some true:=by
 obtain ⟨hA,hF⟩:=ZHn h1 h2 hw hc f1 f2;have l1:(prF n1 n2 b1 b2 v1 v2).1.length=2:=rfl;have l2:(prF n1 n2 b1 b2 v1 v2).2.length=2:=rfl;refine Ret.eq ?_;generalize prF n1 n2 b1 b2 v1 v2=p at hA hF l1 l2;unfold F63;refine Zac (fun s:Int=>∃ k:Nat,s=k/\k<=2) (fun s=>2 - s.toNat) ?_ _ ⟨0,rfl,by omega⟩;rintro _ ⟨k,rfl,hk⟩;have hwk:=Zab k (by omega);simp only [Z54,wq,reduceCtorEq,l1,hwk];refine ⟨fun hlt=>Zaj (by omega) (by rw [l1];omega) fun a ha ham=>?_,fun hge=>?_⟩
 ·obtain ⟨a1,a2,a3⟩:=hA a ham;rw [Za4 (ZKE _ a3)];exact ⟨fun h=>absurd h (by simp),fun _=>⟨⟨k+1,rfl,by omega⟩,by omega⟩⟩
 ·refine Zac (fun s:Int=>∃ k:Nat,s=k/\k<=2) (fun s=>2 - s.toNat) ?_ _ ⟨0,rfl,by omega⟩;rintro _ ⟨k,rfl,hk⟩;have hwk:=Zab k (by omega);simp only [ZA1,wq,reduceCtorEq,l2,hwk];intro hlt;refine Zaj (by omega) (by rw [l2];omega) fun y hy hym=>?_;obtain ⟨⟨f,w,c,ev,ew,ec,d,k1,k2,ed,ek,es,ee⟩,en,el⟩:=hF y hym;refine ⟨fun _=>⟨fun _=>?_,fun h=>absurd h (by simp;omega)⟩,fun h=>absurd h (by simp;omega)⟩;generalize hl:[y.1]++y.2.1++y.2.2.1=l at en;have ll:l.length<=5:=by rw [<-hl];simp;omega
  refine Zac (fun s:Int×List ByteArray=>s.2=l/\∃ k:Nat,s.1=k/\k<=l.length) (fun s=>l.length - s.1.toNat) ?_ _ ⟨rfl,0,rfl,by omega⟩;rintro ⟨_,_⟩ ⟨rfl,j,rfl,hj⟩;have hwj:=Zab j (by omega);simp only [ZA3,Z52,wq,reduceCtorEq,hwj,hwk];refine ⟨fun hlt=>?_,fun _=>?_⟩
  ·refine Zaj (by omega) (by omega) fun nm hn hnm=>?_;rw [Za4 hn,Za4 (ZKE _ (en nm hnm))];exact ⟨fun h=>absurd h (by simp),fun _=>⟨⟨j+1,rfl,by omega⟩,by omega⟩⟩
  ·have va:=ZH7 f;refine Ret.mono (ZLE va 1000 d w k1 _ es (by omega) (by omega)) fun r _ hr=>⟨fun h=>absurd h (by simp [hr]),fun _=>?_⟩
   rw [Za4 (Zha va ee)];simp only [Bool.not_true];exact ⟨fun h=>absurd h (by simp),fun _=>⟨⟨k+1,rfl,by omega⟩,by omega⟩⟩
theorem ZBn:F30 (prF n1 n2 b1 b2 v1 v2)=some 0:=by
 obtain ⟨hA,hF⟩:=ZHn h1 h2 hw hc f1 f2;have l1:(prF n1 n2 b1 b2 v1 v2).1.length=2:=rfl;have l2:(prF n1 n2 b1 b2 v1 v2).2.length=2:=rfl;have m1:(prF n1 n2 b1 b2 v1 v2).1.map (·.1)=[nmA,nmB]:=rfl;have e1:=ZOw h1 h2 hw hc f1 f2;have e2:=ZBe h1 h2 hw hc f1 f2;have e3:=Z88 n1 n2 b1 b2 v1 v2;refine Ret.eq ?_;generalize hp:prF n1 n2 b1 b2 v1 v2=p at hA hF l1 l2 m1 e1 e2 e3;simp only [F30,wq,reduceCtorEq,e1,e2,e3,Bool.not_true];refine Zac (fun s:Int=>∃ k:Nat,s=k/\k<=2) (fun s=>2 - s.toNat) ?_ _ ⟨0,rfl,by omega⟩;rintro _ ⟨rd,rfl,hrd⟩;have hwr:=Zab rd (by omega);simp only [Z8H,wq,reduceCtorEq];intro hr2;refine Zac (fun s:Int=>∃ k:Nat,s=k/\k<=2) (fun s=>2 - s.toNat) ?_ _ ⟨0,rfl,by omega⟩;rintro _ ⟨k,rfl,hk⟩;have hwk:=Zab k (by omega);simp only [ZOc,wq,reduceCtorEq,l2,hwr];refine ⟨fun hlt=>?_,fun _=>⟨⟨rd+1,rfl,by omega⟩,by omega⟩⟩;refine Zaj (by omega) (by rw [l2];omega) fun y hy hym=>?_;obtain ⟨⟨f,w,c,ev,ew,ec,d,k1,k2,ed,ek,es,ee⟩,en,el⟩:=hF y hym;refine ⟨fun _=>⟨fun _=>?_,fun h=>absurd h (by simp;omega)⟩,fun h=>absurd h (by simp;omega)⟩;rw [nil_append,ev];have lv:=ZG7 f;refine Zac (fun s:Int×List (ByteArray×Int)×List FnT×List ByteArray×List ByteArray=>∃ j:Nat,s.1=j/\j<=2/\s.2.1=p.1/\s.2.2.1=p.2/\s.2.2.2.1=ZGp f/\s.2.2.2.2=(p.1.take j).map (·.1)) (fun s=>2 - s.1.toNat) ?_ _ ⟨0,rfl,by omega,rfl,rfl,rfl,by simp⟩;rintro ⟨_,x20,x21,l22,l23⟩ ⟨j,rfl,hj,q1,q2,q3,q4⟩;dsimp only at q1 q2 q3 q4;have hwj:=Zab j (by omega);unfold ZOb;rw [ZpI];refine ⟨fun hlt=>?_,fun hge=>?_⟩
 ·simp only [wq,reduceCtorEq,l1,hwj] at hlt |-
  refine Zaj (by omega) (by rw [l1];omega) fun a ha ham=>?_;refine ⟨fun _=>⟨⟨j+1,rfl,by omega,q1,q2,q3,?_⟩,by omega⟩,fun h=>absurd h ?_⟩
  ·rw [Zax] at ha;rw [q4,take_add_one,ha];simp
  ·rw [q4];simp;omega
 ·rw [decide_eq_false_iff_not,l1] at hge;have hj2:j=2:=by omega
  rw [hj2,List.take_of_length_le (by omega),m1] at q4;subst q1 q2 q3 q4;have hs:∀ b,F65 (ZGp f,[nmA,nmB],(p.1,p.2)) y.2.2.2.1 b=some true:=fun b=>(ZMy (V:=ZGp f) (ZGp f,[nmA,nmB],p) (fun _ h=>h) rfl (by show (ZGp f).length<=10;omega) hp.symm b 1000 d w k1 _ es (by omega) (by omega)).eq;have hv:F66 (ZGp f,[nmA,nmB],(p.1,p.2)) y.2.2.2.2=some true:=ZbF (V:=ZGp f) (ZGp f,[nmA,nmB],p) (fun _ h=>h) rfl (by show (ZGp f).length<=10;omega) ee;have last:Ret (Z5A (rd:Int) (k:Int) y (false,p.1,p.2,ZGp f,[nmA,nmB])) fun r=>r=.inl ((k+1:Nat):Int):=by
   simp only [Z5A,ZOa,wq,reduceCtorEq,hs,Bool.not_true,hwk]
   repeat' first | trivial | intro _ | apply And.intro
  have fin:Ret ((bif (rd:Int)==0 then (F65 (ZGp f,[nmA,nmB],(p.1,p.2)) y.2.2.2.1 false).bind fun r30=>bif !r30 then some (.inl (true,p.1,p.2,ZGp f,[nmA,nmB])) else (F66 (ZGp f,[nmA,nmB],(p.1,p.2)) y.2.2.2.2).bind fun r31=>some (.inl (!r31,p.1,p.2,ZGp f,[nmA,nmB])) else some (.inl (false,p.1,p.2,ZGp f,[nmA,nmB]))).bind (Sum.elim (Z5A (rd:Int) (k:Int) y) some)) fun r=>r=.inl ((k+1:Nat):Int):=by
   simp only [hs,hv,bind_some,Bool.not_true,cond_false];cases (rd:Int)==0<;>exact last
  rw [ZpH];refine Ret.mono fin fun r _ hr=>?_;subst hr;exact ⟨⟨k+1,rfl,by omega⟩,by show 2 - (((k+1:Nat):Int)).toNat < 2 - ((k:Int)).toNat;omega⟩
end
structure Sx (O:Int->Prop) (σ σ':GS) (k:Nat):Prop where
 le:Le σ σ'
 g:GI O σ'
 n:σ'.l.length<=σ.l.length+k
 lo:σ'.lo=σ.lo
theorem Sx.refl {O:Int->Prop} {σ:GS} (h:GI O σ) (k:Nat):Sx O σ σ k:=⟨.refl σ,h,by omega,rfl⟩
theorem Sx.trans {O:Int->Prop} {a b c:GS} {k j m:Nat} (h:Sx O a b k) (i:Sx O b c j) (hm:k+j<=m):Sx O a c m:=⟨h.le.trans i.le,i.g,by have:=h.n;have:=i.n;omega,by rw [i.lo,h.lo]⟩
theorem OkV.sx {O:Int->Prop} {σ σ':GS} {k:Nat} {c v:Int} (h:OkG O σ c v) (hg:GI O σ) (i:Sx O σ σ' k):OkG O σ' c v:=OkV.le h hg.t i.le fun _ h=>h
inductive Oks (O:Int->Prop) (σ:GS):List Int->List Int->Prop
 | nil:Oks O σ [] []
 | cons {v c vs cs}:OkG O σ c v->Oks O σ vs cs->Oks O σ (v::vs) (c::cs)
theorem Oks.map {O:Int->Prop} {σ:GS} {vs cs:List Int} (h:Oks O σ vs cs):vs.map (atI σ.τ)=cs/\(∀ k∈vs,∃ b,OkG O σ b k)/\vs.length=cs.length:=by
 induction h with
 | nil=>exact ⟨rfl,fun k h=>absurd h (by simp),rfl⟩
 | cons h1 _ ih=>
  refine ⟨by rw [map_cons,ih.1,h1.s],fun k hk=>?_,by simp [ih.2.2]⟩;rcases mem_cons.1 hk with rfl | hk
  ·exact ⟨_,h1⟩
  ·exact ih.2.1 k hk
theorem ZAR (op imm:Int) (ks:List Int) (l:List Zae) (hl:l.length<=100000) (hk:ks.length<=1000) (hkl:∀ x∈l,x.2.2.length<=100000):F31 op imm ks l=some (ZH4 l (op,imm,ks),ZHQ l (op,imm,ks)):=by
 refine Ret.eq ?_;simp only [F31,wq,reduceCtorEq];refine ⟨fun _=>?_,fun h=>absurd h (by simp;omega)⟩;refine Zac (fun s:Int×Int×Int×List Zae×List Int=>s.2=(op,imm,l,ks)/\∃ m:Nat,s.1=m/\m<=l.length/\(op,imm,ks)∉l.take m) (fun s=>l.length - s.1.toNat) ?_ _ ⟨by simp,0,rfl,by omega,by simp⟩;rintro ⟨_,_,_,_,_⟩ ⟨e,m,rfl,hm,hn⟩;dsimp only at e;obtain ⟨rfl,rfl,rfl,rfl⟩:_/\_/\_/\_:=by simpa using e
 rename_i op imm l ks e';have hw:=Zab m (by omega);simp only [Z90,wq,reduceCtorEq,hw];refine ⟨fun hlt=>?_,fun hge=>?_⟩
 ·refine Zaj (by omega) hlt fun y hy hym=>?_;rw [Za4 hy,Z75 y _ (hkl y hym)];rw [Zax] at hy;rw [ZaH];refine ⟨fun h=>?_,fun h=>?_⟩
  ·have h:y=(op,imm,ks):=by simpa using h
   subst h;have hi:l.idxOf (op,imm,ks)=m:=by
    have h1:l.take m++l.drop m=l:=List.take_append_drop m l;have h2:l.drop m=(op,imm,ks)::l.drop (m+1):=by
     have:=ZaA hy;rw [List.drop_eq_getElem_cons this,(List.getElem?_eq_some_iff.1 hy).2]
    rw [<-h1,List.idxOf_append,if_neg hn,h2,List.idxOf_cons_self,length_take];omega
   simp [ZH4,ZHQ,hym,hi]
  ·have h:y≠(op,imm,ks):=by simpa using h
   refine ⟨⟨m+1,rfl,by omega,fun hh=>?_⟩,by omega⟩;rw [take_add_one,hy] at hh;rcases mem_append.1 hh with hh | hh
   ·exact hn hh
   ·exact h (by simp at hh;exact hh.symm)
 ·rw [List.take_of_length_le (by omega)] at hn;refine ⟨fun _=>?_,fun h=>absurd h (by simp;omega)⟩;have:wrap .i64 (((l++[(op,imm,ks)]).length:Int) - 1)=(l.length:Int):=by
   simp only [length_append,length_cons,length_nil];rw [Zau (by omega) (by omega)];omega
  rw [this];simp [ZH4,ZHQ,hn]
def ZJ1 (O:Int->Prop) (σ:GS) (c:Int) (r:Int×List Zae):Prop:=∃ σ',Sx O σ σ' 1/\r.2=σ'.l/\OkG O σ' c r.1
section
variable {O:Int->Prop} {σ:GS} (hg:GI O σ) (hn:σ.l.length<=90000)
include hg hn
theorem ZHC {v c:Int} (h:OkG O σ c v):I64 v:=by
 have:=h.r.1;have:=h.r.2
 unfold I64;omega
theorem ZGL {op imm c:Int} {ks cs:List Int} (hi:I64 imm) (hop:0<=op/\op<=40) (hk:Oks O σ ks cs) (hl:ks.length<=40) (hs:F49 σ.l (op,imm,ks) cs=some c) (hc:c≠0) (h31:op≠31) (h3:op=3->0<=imm/\O (Int.tdiv imm 16)/\Int.tmod imm 16 < σ.W (Int.tdiv imm 16)):Ret (F31 op imm ks σ.l) (ZJ1 O σ c):=by
 obtain ⟨k1,k2,k3⟩:=hk.map;rw [ZAR op imm ks σ.l (by omega) (by omega) (fun x hx=>by have:=(hg.w x hx).k;omega),ZaH];have hs':F49 σ.l (op,imm,ks) (kS σ.τ (op,imm,ks))=some c:=by unfold kS;rw [k1];exact hs
 have:=ZJw hg (n:=(op,imm,ks)) (c:=c) ⟨⟨by constructor<;>omega,hi,by show ks.length<=1000;omega,fun q hq=>by obtain ⟨b,hb⟩:=k2 q hq;exact ZHC hg hn hb⟩,hl⟩ k2 hs' hc h31 h3;refine ⟨ZGC σ (op,imm,ks) c,⟨ZGW _ _ _,this.1,?_,(ZIc _ _ _).2⟩,(ZGI _ _ _).symm,this.2⟩;rw [ZGI];exact ZHl _ _
theorem ZGr {op imm c:Int} {ks cs:List Int} (h:NsT op cs c) (hi:I64 imm) (him:Zfk op imm=true) (hk:Oks O σ ks cs):Ret (F31 op imm ks σ.l) (ZJ1 O σ c):=by
 have hl:=hk.map.2.2;have hcs:cs.length<=3:=by cases h<;>simp
 have hop:0<=op/\op<=29:=by cases h<;>omega
 have hop2:op≠3:=by cases h<;>omega
 have hc:c≠0:=by cases h<;>omega
 exact ZGL hg hn hi (by omega) hk (by omega) (ZJG _ h him hl) hc (by omega) (fun e=>absurd e hop2)
theorem ZGA {q a b s:Int} (hs:s=1\/s=2) (h1:OkG O σ 1 q) (h2:OkG O σ s a) (h3:OkG O σ s b):Ret (F71 q a b σ.l) (ZJ1 O σ s):=by
 simp only [F71,wq,reduceCtorEq];refine ⟨fun _=>⟨σ,.refl hg 1,rfl,h2⟩,fun _=>?_⟩;rcases hs with rfl | rfl
 ·exact ZGr hg hn .sel1 (by constructor<;>omega) rfl (.cons h1 (.cons h2 (.cons h3 .nil)))
 ·exact ZGr hg hn .sel2 (by constructor<;>omega) rfl (.cons h1 (.cons h2 (.cons h3 .nil)))
end
theorem Zzq (V:List ByteArray) (nm:ByteArray) (hV:2<=V.length/\V.length<=4):Ret (F68 nm V) fun r=>r.2=V/\0<=r.1/\r.1 < V.length:=by
 unfold F68;refine Zac (fun s:Int×List ByteArray=>s.2=V/\∃ m:Nat,s.1=m/\m<=V.length) (fun s=>V.length - s.1.toNat) ?_ _ ⟨rfl,0,rfl,by omega⟩;rintro ⟨_,V'⟩ ⟨e,m,rfl,hm⟩;dsimp only at e;subst e;have hw:=Zab m (by omega);simp only [ZEa,wq,reduceCtorEq,hw];refine ⟨fun hlt=>Zaj (by omega) hlt fun y hy hym=>?_,fun hge=>⟨by omega,by omega⟩⟩;rw [Za4 hy];exact ⟨fun _=>⟨by omega,hlt⟩,fun _=>⟨⟨m+1,rfl,by omega⟩,by omega⟩⟩
abbrev ArT:=List (ByteArray×Int)
theorem Zzr (A:ArT) (nm:ByteArray) (hA:A.length=2):Ret (F69 nm A) fun r=>r.2=A/\0<=r.1/\r.1 < 2:=by
 unfold F69;refine Zac (fun s:Int×ArT=>s.2=A/\∃ m:Nat,s.1=m/\m<=A.length) (fun s=>A.length - s.1.toNat) ?_ _ ⟨rfl,0,rfl,by omega⟩;rintro ⟨_,A'⟩ ⟨e,m,rfl,hm⟩;dsimp only at e;subst e;have hw:=Zab m (by omega);simp only [Z92,wq,reduceCtorEq,hw];refine ⟨fun hlt=>Zaj (by omega) hlt fun y hy hym=>?_,fun hge=>⟨by omega,by omega⟩⟩;exact ⟨fun _=>⟨by omega,by omega⟩,fun _=>⟨⟨m+1,rfl,by omega⟩,by omega⟩⟩
abbrev BsT:=ArT×List FnT×Int×Int×List Zae×List ByteArray×List Int
def BcR (O:Int->Prop) (σ:GS) (A:ArT) (Fs:List FnT) (lo:Int) (V:List ByteArray) (vars:List Int) (k:Nat) (r:BsT):Prop:=∃ σ' s',r=(A,Fs,s',lo,σ'.l,V,vars)/\Sx O σ σ' k/\OkG O σ' 2 s'
def ZHU (O:Int->Prop) (σ:GS) (A:ArT) (Fs:List FnT) (lo:Int) (V:List ByteArray) (vars:List Int) (k:Nat) (r:Int×BsT):Prop:=∃ σ' s',r.2=(A,Fs,s',lo,σ'.l,V,vars)/\Sx O σ σ' k/\OkG O σ' 2 s'/\OkG O σ' 1 r.1
theorem ZGM:I64 0:=by constructor<;>omega
section
variable {O:Int->Prop} {A:ArT} (hA:A.length=2/\∀ y∈A,I64 y.2) (Fs:List FnT) (lo:Int) {V:List ByteArray} (hV:2<=V.length/\V.length<=4)
include hA
theorem Zzn {σ:GS} (hg:GI O σ) (hn:σ.l.length<=80000) {a i s:Int} (ha:0<=a/\a < 2) (hi:OkG O σ 1 i) (hs:OkG O σ 2 s) (vars:List Int):Ret (F70 a i A Fs s lo σ.l V vars) (BcR O σ A Fs lo V vars 3):=by
 simp only [F70,wq,reduceCtorEq];refine Zaj ha.1 (by omega) fun y hy hym=>?_;refine Ret.mono (ZGr hg (by omega) .con (hA.2 y hym) (by simp [Zfk]) .nil) fun r1 _ ⟨σ1,x1,e1,o1⟩=>?_;rw [e1];have:=x1.n;refine Ret.mono (ZGr x1.g (by omega) (.bin (op:=19) (by omega) (by omega)) ZGM rfl (.cons (hi.sx hg x1) (.cons o1 .nil))) fun r2 _ ⟨σ2,x2,e2,o2⟩=>?_;rw [e2];have:=x2.n;refine Ret.mono (ZGr x2.g (by omega) .guard (by constructor<;>omega) rfl (.cons ((hs.sx hg x1).sx x1.g x2) (.cons o2 .nil))) fun r3 _ ⟨σ3,x3,e3,o3⟩=>?_;rw [e3];exact ⟨σ3,_,rfl,(x1.trans x2 (le_refl _)).trans x3 (by omega),o3⟩
include hV
theorem ZLd:∀ (n d c:Nat) (e:ExW) {σ:GS} {s:Int} {vars:List Int},WE V d c e->d < n->GI O σ->σ.l.length+4 * c<=70000->OkG O σ 2 s->vars.length=V.length->(∀ v∈vars,OkG O σ 1 v)->Ret (N33 n e.1 e.2.1 e.2.2.1 e.2.2.2.1 e.2.2.2.2 A Fs s lo σ.l V vars) (ZHU O σ A Fs lo V vars (4 * c))
 | 0,d,c,e,σ,s,vars,h,hd,_,_,_,_,_=>by omega
 | n+1,d,c,e,σ,s,vars,h,hd,hg,hn,hs,hvl,hv=>by
  show Ret (G33 (N33 n) e.1 e.2.1 e.2.2.1 e.2.2.2.1 e.2.2.2.2 A Fs s lo σ.l V vars) _;unfold G33;cases h with
  | @num d c m h=>
   simp only [wq,reduceCtorEq];refine Ret.mono (ZGr hg (by omega) .con h (by simp [Zfk]) .nil) fun r1 _ ⟨σ1,x1,e1,o1⟩=>?_;rw [e1];exact ⟨σ1,s,rfl,(Sx.refl hg 0).trans x1 (by omega),hs.sx hg x1,o1⟩
  | @var d c nm h=>
   simp only [wq,reduceCtorEq];refine ⟨fun h=>absurd h (by decide),fun _=>?_⟩;refine Ret.mono (Zzq V nm hV) fun r _ ⟨r1,r2,r3⟩=>?_;refine Zaj r2 (by omega) fun y hy hym=>?_;rw [Za4 hy,r1];exact ⟨σ,s,rfl,.refl hg _,hs,hv y hym⟩
  | @idx d c nm e' h h1=>
   simp only [wq,reduceCtorEq];refine ⟨fun h=>absurd h (by decide),fun _=>⟨fun h=>absurd h (by decide),fun _=>?_⟩⟩;refine ⟨ZGu e',rfl,?_⟩;refine Ret.mono (ZLd n d c e' h1 (by omega) hg (by omega) hs hvl hv) fun r _ ⟨σ1,s1,e1,x1,o1,o2⟩=>?_;rw [e1];have:=x1.n;refine Ret.mono (Zzr A nm hA.1) fun a _ ⟨a1,a2,a3⟩=>?_;rw [a1];refine Ret.mono (Zzn hA Fs lo x1.g (by omega) ⟨a2,a3⟩ o2 o1 vars) fun q _ ⟨σ2,s2,e2,x2,o3⟩=>?_;subst e2;have:=x2.n;refine Ret.mono (ZGr x2.g (by omega) .load (by constructor<;>omega) (by unfold Zfk;simp;omega) (.cons o3 (.cons (o2.sx x1.g x2) .nil))) fun r3 _ ⟨σ3,x3,e3,o4⟩=>?_;rw [e3];exact ⟨σ3,s2,rfl,(x1.trans x2 (le_refl _)).trans x3 (by omega),o3.sx x2.g x3,o4⟩
  | @cnd d c1 c2 c3 y1 y2 y3 h1 h2 h3=>
   simp only [wq,reduceCtorEq];refine ⟨fun h=>absurd h (by decide),fun _=>⟨fun h=>absurd h (by decide),fun _=>⟨fun h=>absurd h (by decide),fun _=>?_⟩⟩⟩;refine ⟨ZGu y1,rfl,?_⟩;refine Ret.mono (ZLd n d c1 y1 h1 (by omega) hg (by omega) hs hvl hv) fun r _ ⟨σ1,s1,e1,x1,o1,o2⟩=>?_;rw [e1];have:=x1.n;refine ⟨ZGu y2,rfl,?_⟩;refine Ret.mono (ZLd n d c2 y2 h2 (by omega) x1.g (by omega) o1 hvl (fun v h=>(hv v h).sx hg x1)) fun q _ ⟨σ2,s2,e2,x2,o3,o4⟩=>?_;rw [e2];have:=x2.n;have x12:=x1.trans x2 (le_refl _);refine ⟨ZGu y3,rfl,?_⟩;refine Ret.mono (ZLd n d c3 y3 h3 (by omega) x2.g (by omega) (o1.sx x1.g x2) hvl (fun v h=>(hv v h).sx hg x12)) fun t _ ⟨σ3,s3,e3,x3,o5,o6⟩=>?_;rw [e3];have:=x3.n;have q1:=(o2.sx x1.g x2).sx x2.g x3;refine Ret.mono (ZGA x3.g (by omega) (.inl rfl) q1 (o4.sx x2.g x3) o6) fun u _ ⟨σ4,x4,e4,o7⟩=>?_;rw [e4];have:=x4.n;refine Ret.mono (ZGA x4.g (by omega) (.inr rfl) (q1.sx x3.g x4) ((o3.sx x2.g x3).sx x3.g x4) (o5.sx x3.g x4)) fun v _ ⟨σ5,x5,e5,o8⟩=>?_;rw [e5];exact ⟨σ5,_,rfl,(((x12.trans x3 (le_refl _)).trans x4 (le_refl _)).trans x5 (by omega)),o8,o7.sx x4.g x5⟩
  | @un d c op y h h1=>
   simp only [wq,reduceCtorEq];refine ⟨fun h=>absurd h (by decide),fun _=>⟨fun h=>absurd h (by decide),fun _=>⟨fun h=>absurd h (by decide),fun _=>⟨fun h=>absurd h (by decide),fun _=>?_⟩⟩⟩⟩;refine ⟨ZGu y,rfl,?_⟩;refine Ret.mono (ZLd n d c y h1 (by omega) hg (by omega) hs hvl hv) fun r _ ⟨σ1,s1,e1,x1,o1,o2⟩=>?_;rw [e1];have:=x1.n;refine ⟨fun _=>?_,fun h=>absurd h (by simp)⟩;refine Ret.mono (ZGr x1.g (by omega) (.un h) ZGM (by rcases h with rfl | rfl<;>rfl) (.cons o2 .nil)) fun u _ ⟨σ2,x2,e2,o3⟩=>?_;rw [e2];exact ⟨σ2,s1,rfl,x1.trans x2 (by omega),o1.sx x1.g x2,o3⟩
  | @bin d c1 c2 op y1 y2 h h1 h2=>
   simp only [wq,reduceCtorEq];refine ⟨fun h=>absurd h (by decide),fun _=>⟨fun h=>absurd h (by decide),fun _=>⟨fun h=>absurd h (by decide),fun _=>⟨fun h=>absurd h (by decide),fun _=>?_⟩⟩⟩⟩;refine ⟨ZGu y1,rfl,?_⟩;refine Ret.mono (ZLd n d c1 y1 h1 (by omega) hg (by omega) hs hvl hv) fun r _ ⟨σ1,s1,e1,x1,o1,o2⟩=>?_;rw [e1];have:=x1.n;refine ⟨fun h=>absurd h (by simp),fun _=>?_⟩;refine ⟨ZGu y2,rfl,?_⟩;refine Ret.mono (ZLd n d c2 y2 h2 (by omega) x1.g (by omega) o1 hvl (fun v h=>(hv v h).sx hg x1)) fun q _ ⟨σ2,s2,e2,x2,o3,o4⟩=>?_;rw [e2];have:=x2.n;have x12:=x1.trans x2 (le_refl _);have o2':=o2.sx x1.g x2;have last:∀ {σ3:GS} {s3:Int},Sx O σ2 σ3 3->OkG O σ3 2 s3->Ret (ZrM op r q (A,Fs,s3,lo,σ3.l,V,vars)) (ZHU O σ A Fs lo V vars (4 * (c1+c2+1))):=by
    intro σ3 s3 x3 o5;have:=x3.n;simp only [ZrM,wq,reduceCtorEq];refine Ret.mono (ZGr x3.g (by omega) (.bin (by omega) (by omega)) ZGM (by unfold Zfk;simp;omega) (.cons (o2'.sx x2.g x3) (.cons (o4.sx x2.g x3) .nil))) fun u _ ⟨σ4,x4,e4,o6⟩=>?_;rw [e4];exact ⟨σ4,s3,rfl,(x12.trans x3 (le_refl _)).trans x4 (by omega),o5.sx x3.g x4,o6⟩
   have mid:∀ b:Bool,Ret (Zu9 q (b,A,Fs,s2,lo,σ2.l,V,vars)) fun a=>Ret (Sum.elim (ZrM op r q) some a) (ZHU O σ A Fs lo V vars (4 * (c1+c2+1))):=by
    intro b;cases b
    ·simp only [Zu9,wq,reduceCtorEq];exact last (.refl x2.g 3) o3
    ·simp only [Zu9,wq,reduceCtorEq];refine Ret.mono (ZGr x2.g (by omega) .con ZGM rfl .nil) fun u _ ⟨σ3,x3,e3,o5⟩=>?_;rw [e3];have:=x3.n;refine Ret.mono (ZGr x3.g (by omega) (.bin (op:=16) (by omega) (by omega)) ZGM rfl (.cons (o4.sx x2.g x3) (.cons o5 .nil))) fun u _ ⟨σ4,x4,e4,o6⟩=>?_;rw [e4];have:=x4.n;refine Ret.mono (ZGr x4.g (by omega) .guard (by constructor<;>omega) rfl (.cons ((o3.sx x2.g x3).sx x3.g x4) (.cons o6 .nil))) fun u _ ⟨σ5,x5,e5,o7⟩=>?_;rw [e5];exact last ((x3.trans x4 (le_refl _)).trans x5 (by omega)) o7
   refine ⟨fun _=>mid true,fun _=>mid _⟩
end
structure Sw (O:Int->Prop) (σ σ':GS) (k w:Nat):Prop where
 le:Le σ σ'
 g:GI O σ'
 n:σ'.l.length<=σ.l.length+k
 lo:σ'.lo<=σ.lo+w
theorem Sx.w {O:Int->Prop} {σ σ':GS} {k:Nat} (h:Sx O σ σ' k) (w:Nat):Sw O σ σ' k w:=⟨h.le,h.g,h.n,by rw [h.lo];omega⟩
theorem Sw.trans {O:Int->Prop} {a b c:GS} {k j m w v u:Nat} (h:Sw O a b k w) (i:Sw O b c j v) (hm:k+j<=m) (hu:w+v<=u):Sw O a c m u:=⟨h.le.trans i.le,i.g,by have:=h.n;have:=i.n;omega,by have:=h.lo;have:=i.lo;omega⟩
theorem OkV.sw {O:Int->Prop} {σ σ':GS} {k w:Nat} {c v:Int} (h:OkG O σ c v) (hg:GI O σ) (i:Sw O σ σ' k w):OkG O σ' c v:=OkV.le h hg.t i.le fun _ h=>h
def StR (O:Int->Prop) (σ:GS) (A:ArT) (Fs:List FnT) (V:List ByteArray) (k w:Nat) (r:BsT):Prop:=∃ σ' s' vars',r=(A,Fs,s',σ'.lo,σ'.l,V,vars')/\Sw O σ σ' k w/\OkG O σ' 2 s'/\vars'.length=V.length/\∀ v∈vars',OkG O σ' 1 v
abbrev ZJ2:=List SmT->ArT->List FnT->Int->Int->List Zae->List ByteArray->List Int->Option BsT
def ZHD (R:ZJ2) (A:ArT) (Fs:List FnT) (V:List ByteArray) (d:Nat):Prop:=∀ (O:Int->Prop) (σ:GS) (s:Int) (vars:List Int) (w c:Nat) (l:List SmT),WSL V d w c l->GI O σ->σ.l.length+16 * c<=16000->σ.lo+w<=12->OkG O σ 2 s->vars.length=V.length->(∀ v∈vars,OkG O σ 1 v)->Ret (R l A Fs s σ.lo σ.l V vars) (StR O σ A Fs V (16 * c) w)
theorem ZHV {α:Type} {l:List α} {i:Int} {x v:α} (h:v∈Zaq l i x):v∈l\/v=x:=by
 unfold Zaq at h;exact List.mem_or_eq_of_mem_set h
section
variable {A:ArT} (hA:A.length=2/\∀ y∈A,I64 y.2) {Fs:List FnT} {V:List ByteArray} (hV:2<=V.length/\V.length<=4) (hF:Z0s (A,Fs) nmF=some 0/\Z0s (A,Fs) nmG=some 1)
include hA hV
theorem ZGN {O:Int->Prop} {c:Nat} {e:ExW} {σ:GS} {s:Int} {vars:List Int} (lo:Int) (h:WE V 4 c e) (hg:GI O σ) (hn:σ.l.length+4 * c<=70000) (hs:OkG O σ 2 s) (hvl:vars.length=V.length) (hv:∀ v∈vars,OkG O σ 1 v):Ret (F33 e.1 e.2.1 e.2.2.1 e.2.2.2.1 e.2.2.2.2 A Fs s lo σ.l V vars) (ZHU O σ A Fs lo V vars (4 * c)):=ZLd hA Fs lo hV 1000 4 c e h (by omega) hg hn hs hvl hv
theorem setV {O:Int->Prop} {σ:GS} {vars:List Int} {i v:Int} (hvl:vars.length=V.length) (hv:∀ v∈vars,OkG O σ 1 v) (h:OkG O σ 1 v):(Zaq vars i v).length=V.length/\∀ u∈Zaq vars i v,OkG O σ 1 u:=
 ⟨by rw [Zay,hvl],fun u hu=>by
  rcases ZHV hu with hu | rfl
  ·exact hv u hu
  ·exact h⟩
variable {R:ZJ2} {d:Nat} (hR:ZHD R A Fs V d)
include hF hR
theorem ZHE {O:Int->Prop} {σ:GS} {s:Int} {vars:List Int} {w c:Nat} {y:SmT} (h:WS V (d+1) w c y) (hk:(ZGo y).1≠3/\(ZGo y).1≠4) (hg:GI O σ) (hn:σ.l.length+16 * c<=16000) (hs:OkG O σ 2 s) (hvl:vars.length=V.length) (hv:∀ v∈vars,OkG O σ 1 v):Ret (E67 R (ZGo y) A Fs s σ.lo σ.l V vars) (StR O σ A Fs V (16 * c) w):=by
 unfold E67;cases h with
 | @asg _ _ c nm e h h1=>
  simp only [ZGo,wq,reduceCtorEq];refine Ret.mono (ZGN hA hV σ.lo h1 hg (by omega) hs hvl hv) fun r _ ⟨σ1,s1,e1,x1,o1,o2⟩=>?_;rw [e1];refine Ret.mono (Zzq V nm hV) fun r _ ⟨r1,r2,r3⟩=>?_;refine Zaj r2 (by show r.1 < (vars.length:Int);omega) fun y hy hym=>?_;rw [Za4 hy,r1];have sv:=setV (i:=r.1) hA hV hvl (fun v h=>(hv v h).sx hg x1) o2;exact ⟨σ1,s1,_,by rw [x1.lo],(Sx.w ((Sx.refl hg 0).trans x1 (by omega)) w),o1,sv.1,sv.2⟩
 | @sto _ _ c1 c2 nm a e h h1 h2=>
  simp only [ZGo,wq,reduceCtorEq];refine ⟨fun h=>absurd h (by decide),fun _=>?_⟩;refine Ret.mono (ZGN hA hV σ.lo h1 hg (by omega) hs hvl hv) fun r _ ⟨σ1,s1,e1,x1,o1,o2⟩=>?_;rw [e1];have:=x1.n;refine Ret.mono (ZGN hA hV σ.lo h2 x1.g (by omega) o1 hvl (fun v h=>(hv v h).sx hg x1)) fun q _ ⟨σ2,s2,e2,x2,o3,o4⟩=>?_;rw [e2];have:=x2.n;have x12:=x1.trans x2 (le_refl _);refine Ret.mono (Zzr A nm hA.1) fun a _ ⟨a1,a2,a3⟩=>?_;rw [a1];refine Ret.mono (Zzn hA Fs σ.lo x2.g (by omega) ⟨a2,a3⟩ (o2.sx x1.g x2) o3 vars) fun t _ ⟨σ3,s3,e3,x3,o5⟩=>?_;subst e3;have:=x3.n;have x13:=x12.trans x3 (le_refl _);refine Ret.mono (ZGr x3.g (by omega) .store (by constructor<;>omega) (by unfold Zfk;simp;omega) (.cons o5 (.cons ((o2.sx x1.g x2).sx x2.g x3) (.cons (o4.sx x2.g x3) .nil)))) fun u _ ⟨σ4,x4,e4,o6⟩=>?_;rw [e4];have x14:=x13.trans x4 (le_refl _);exact ⟨σ4,_,vars,by rw [x14.lo],(Sx.refl hg 0 |>.trans x14 (by omega)).w w,o6,hvl,fun v h=>(hv v h).sx hg x14⟩
 | ite=>exact absurd rfl hk.1
 | whl=>exact absurd rfl hk.2
 | @out _ _ c e h1=>
  simp only [ZGo,wq,reduceCtorEq];refine ⟨fun h=>absurd h (by decide),fun _=>⟨fun h=>absurd h (by decide),fun _=>?_⟩⟩;refine Ret.mono (ZGN hA hV σ.lo h1 hg (by omega) hs hvl hv) fun r _ ⟨σ1,s1,e1,x1,o1,o2⟩=>?_;rw [e1];have:=x1.n;refine Ret.mono (ZGr x1.g (by omega) .out ZGM rfl (.cons o1 (.cons o2 .nil))) fun u _ ⟨σ2,x2,e2,o3⟩=>?_;rw [e2];have x12:=x1.trans x2 (le_refl _);exact ⟨σ2,_,vars,by rw [x12.lo],(Sx.refl hg 0 |>.trans x12 (by omega)).w w,o3,hvl,fun v h=>(hv v h).sx hg x12⟩
 | @trp _ _ c n h h1=>
  simp only [ZGo,wq,reduceCtorEq];refine ⟨fun h=>absurd h (by decide),fun _=>⟨fun h=>absurd h (by decide),fun _=>⟨fun h=>absurd h (by decide),fun _=>?_⟩⟩⟩;refine Ret.mono (ZGr hg (by omega) .con ZGM rfl .nil) fun u _ ⟨σ1,x1,e1,o1⟩=>?_;rw [e1];have:=x1.n;rw [Zau (n:=16+n) (by omega) (by omega)];refine Ret.mono (ZGr x1.g (by omega) .guard (by constructor<;>omega) (by unfold Zfk;simp;omega) (.cons (hs.sx hg x1) (.cons o1 .nil))) fun u _ ⟨σ2,x2,e2,o3⟩=>?_;rw [e2];have x12:=x1.trans x2 (le_refl _);exact ⟨σ2,_,vars,by rw [x12.lo],(Sx.refl hg 0 |>.trans x12 (by omega)).w w,o3,hvl,fun v h=>(hv v h).sx hg x12⟩
 | @cal1 _ _ c nm e h h1=>
  simp only [ZGo,wq,reduceCtorEq];refine ⟨fun h=>absurd h (by decide),fun _=>⟨fun h=>absurd h (by decide),fun _=>⟨fun h=>absurd h (by decide),fun _=>⟨fun h=>absurd h (by decide),fun _=>?_⟩⟩⟩⟩;refine ZGn ?_;simp only [ZwL,wq,reduceCtorEq];refine ⟨fun _=>⟨ZGu e,rfl,?_⟩,fun h=>absurd h (by simp)⟩;refine Ret.mono (ZGN hA hV σ.lo h1 hg (by omega) hs hvl hv) fun r _ ⟨σ1,s1,e1,x1,o1,o2⟩=>?_;rw [e1];have:=x1.n;refine ⟨fun _=>?_,fun h=>absurd h (by simp)⟩;refine ZGn ?_;simp only [ZwL,wq,reduceCtorEq];refine ⟨fun h=>absurd h (by rw [show wrap .i64 (0+1)=1 from rfl];simp),fun _=>?_⟩;rw [hF.2,ZaH];refine ⟨fun _=>?_,fun h=>absurd h (by simp)⟩;refine Ret.mono (ZGL x1.g (by omega) (op:=30) (imm:=1) (c:=2) (by constructor<;>omega) (by omega) (.cons o1 (.cons o2 .nil)) (by simp) (ZH5 _ (by omega) 1 (by omega) rfl) (by decide) (by decide) (fun e=>absurd e (by decide))) fun u _ ⟨σ2,x2,e2,o3⟩=>?_;have e2':u.2=σ2.l:=e2;rw [e2'];have:=x2.n;refine Ret.mono (Zzq V nm hV) fun q _ ⟨r1,r2,r3⟩=>?_;refine Ret.mono (ZGr x2.g (by omega) .res ZGM rfl (.cons o3 .nil)) fun t _ ⟨σ3,x3,e3,o4⟩=>?_;rw [e3];refine Zaj r2 (by show q.1 < (vars.length:Int);omega) fun y hy hym=>?_;rw [Za4 hy,r1];have x13:=(x1.trans x2 (le_refl _)).trans x3 (le_refl _);have sv:=setV (i:=q.1) hA hV hvl (fun v h=>(hv v h).sx hg x13) o4;exact ⟨σ3,_,_,by rw [x13.lo],(Sx.refl hg 0 |>.trans x13 (by omega)).w w,o3.sx x2.g x3,sv.1,sv.2⟩
 | @cal2 _ _ c1 c2 nm ea eb h h1 h2=>
  simp only [ZGo,wq,reduceCtorEq];refine ⟨fun h=>absurd h (by decide),fun _=>⟨fun h=>absurd h (by decide),fun _=>⟨fun h=>absurd h (by decide),fun _=>⟨fun h=>absurd h (by decide),fun _=>?_⟩⟩⟩⟩;refine ZGn ?_;simp only [ZwL,wq,reduceCtorEq];refine ⟨fun _=>⟨ZGu ea,rfl,?_⟩,fun h=>absurd h (by simp)⟩;refine Ret.mono (ZGN hA hV σ.lo h1 hg (by omega) hs hvl hv) fun r _ ⟨σ1,s1,e1,x1,o1,o2⟩=>?_;rw [e1];have:=x1.n;refine ⟨fun _=>?_,fun h=>absurd h (by simp)⟩;refine ZGn ?_;simp only [ZwL,wq,reduceCtorEq];refine ⟨fun _=>⟨ZGu eb,rfl,?_⟩,fun h=>absurd h (by rw [show wrap .i64 (0+1)=1 from rfl];simp)⟩;refine Ret.mono (ZGN hA hV σ.lo h2 x1.g (by omega) o1 hvl (fun v h=>(hv v h).sx hg x1)) fun r' _ ⟨σ1',s1',e1',x1',o1',o2'⟩=>?_;rw [e1'];have:=x1'.n;refine ⟨fun _=>?_,fun h=>absurd h (by simp)⟩;refine ZGn ?_;simp only [ZwL,wq,reduceCtorEq];refine ⟨fun h=>absurd h (by rw [show wrap .i64 (wrap .i64 (0+1)+1)=2 from rfl];simp),fun _=>?_⟩;rw [hF.1,ZaH];refine ⟨fun _=>?_,fun h=>absurd h (by simp)⟩;refine Ret.mono (ZGL x1'.g (by omega) (op:=30) (imm:=0) (c:=2) (by constructor<;>omega) (by omega) (.cons o1' (.cons (o2.sx x1.g x1') (.cons o2' .nil))) (by simp) (ZH5 _ (by omega) 2 (by omega) rfl) (by decide) (by decide) (fun e=>absurd e (by decide))) fun u _ ⟨σ2,x2,e2,o3⟩=>?_;have e2':u.2=σ2.l:=e2;rw [e2'];have:=x2.n;refine Ret.mono (Zzq V nm hV) fun q _ ⟨r1,r2,r3⟩=>?_;refine Ret.mono (ZGr x2.g (by omega) .res ZGM rfl (.cons o3 .nil)) fun t _ ⟨σ3,x3,e3,o4⟩=>?_;rw [e3];refine Zaj r2 (by show q.1 < (vars.length:Int);omega) fun y hy hym=>?_;rw [Za4 hy,r1];have x13:=((x1.trans x1' (le_refl _)).trans x2 (le_refl _)).trans x3 (le_refl _);have sv:=setV (i:=q.1) hA hV hvl (fun v h=>(hv v h).sx hg x13) o4;exact ⟨σ3,_,_,by rw [x13.lo],(Sx.refl hg 0 |>.trans x13 (by omega)).w w,o3.sx x2.g x3,sv.1,sv.2⟩
end
section
variable {A:ArT} (hA:A.length=2/\∀ y∈A,I64 y.2) {Fs:List FnT} {V:List ByteArray} (hV:2<=V.length/\V.length<=4)
include hA hV
theorem ZHW {R:ZJ2} {d:Nat} (hR:ZHD R A Fs V d) {O:Int->Prop} {σ:GS} {s:Int} {vars:List Int} {w1 w2 c1 c2 c3:Nat} {e:ExW} {x y:List SmT} (h1:WE V 4 c1 e) (h2:WSL V d w1 c2 x) (h3:WSL V d w2 c3 y) (hg:GI O σ) (hn:σ.l.length+16 * (c1+c2+c3+1)<=16000) (hlo:σ.lo+(w1+w2:Nat)<=12) (hs:OkG O σ 2 s) (hvl:vars.length=V.length) (hv:∀ v∈vars,OkG O σ 1 v):Ret (E67 R (ZGo (SmT.mk 3 empty empty 0 zE e [] x y)) A Fs s σ.lo σ.l V vars) (StR O σ A Fs V (16 * (c1+c2+c3+1)) (w1+w2)):=by
 unfold E67;simp only [ZGo,wq,reduceCtorEq];refine ⟨fun h=>absurd h (by decide),fun _=>⟨fun h=>absurd h (by decide),fun _=>⟨fun h=>absurd h (by decide),fun _=>⟨fun h=>absurd h (by decide),fun _=>⟨fun h=>absurd h (by decide),fun _=>?_⟩⟩⟩⟩⟩;refine Ret.mono (ZGN hA hV σ.lo h1 hg (by omega) hs hvl hv) fun r _ ⟨σ1,s1,e1,x1,o1,o2⟩=>?_;rw [e1];have:=x1.n;have l1:=x1.lo;refine ⟨fun _=>?_,fun h=>absurd h (by simp;omega)⟩;have hv1:=fun v h=>(hv v h).sx hg x1;have t1:=hR O σ1 s1 vars w1 c2 x h2 x1.g (by omega) (by omega) o1 hvl hv1;rw [l1] at t1;refine Ret.mono t1 fun r57 _ ⟨σ2,s2,v2,e2,x2,o3,hl2,hv2⟩=>?_;subst e2;have:=x2.n;have l2:=x2.lo;have t2:=hR O σ2 s1 vars w2 c3 y h3 x2.g (by omega) (by omega) (o1.sw x1.g x2) hvl (fun v h=>(hv1 v h).sw x1.g x2);rw [nil_append];refine Ret.mono t2 fun r58 _ ⟨σ3,s3,v3,e3,x3,o4,hl3,hv3⟩=>?_;subst e3;have:=x3.n;have l3:=x3.lo;have c3':=(o2.sw x1.g x2).sw x2.g x3;have s23:=o3.sw x2.g x3;have hv23:=fun v h=>(hv2 v h).sw x2.g x3;refine Zac (fun q:Int×ArT×List FnT×Int×Int×List Int×List Zae×List ByteArray×List Int=>∃ (m:Nat) (σ':GS) (vs:List Int),q=((m:Int),A,Fs,s3,σ3.lo,v2,σ'.l,V,vs)/\m<=V.length/\Sx O σ3 σ' m/\vs.length=V.length/\∀ v∈vs,OkG O σ' 1 v) (fun q=>V.length - q.1.toNat) ?_ _ ⟨0,σ3,v3,rfl,by omega,.refl x3.g 0,hl3,hv3⟩;rintro _ ⟨m,σ',vs,rfl,hm,xs,hvs,hvv⟩;have hw:=Zab m (by omega);have:=xs.n;simp only [ZDg,wq,reduceCtorEq,hw];refine ⟨fun hlt=>?_,fun hge=>?_⟩
 ·refine Zaj (by omega) (by omega) fun a ha ham=>?_;rw [Za4 ha];refine Zaj (by omega) (by omega) fun b hb hbm=>?_;rw [Za4 hb];refine Ret.mono (ZGA xs.g (by omega) (.inl rfl) (c3'.sx x3.g xs) ((hv23 a ham).sx x3.g xs) (hvv b hbm)) fun u _ ⟨σ4,x4,e4,o6⟩=>?_;rw [e4,Za4 hb,Za4 hb];have sv:=setV (i:=(m:Int)) hA hV hvs (fun v h=>(hvv v h).sx xs.g x4) o6;exact ⟨⟨m+1,σ4,_,rfl,by omega,xs.trans x4 (le_refl _),sv.1,sv.2⟩,by omega⟩
 ·refine Ret.mono (ZGA xs.g (by omega) (.inr rfl) (c3'.sx x3.g xs) (s23.sx x3.g xs) (o4.sx x3.g xs)) fun u _ ⟨σ4,x4,e4,o6⟩=>?_;rw [e4];have xx:=xs.trans x4 (le_refl _);have xlo:=xx.lo;refine ⟨σ4,_,vs,by rw [xlo],(((x1.w 0).trans x2 (le_refl _) (le_refl _)).trans x3 (le_refl _) (le_refl _)).trans (xx.w 0) (by omega) (by omega),o6,hvs,fun v h=>(hvv v h).sx xs.g x4⟩
theorem ZLF (Fs:List FnT) (s lo:Int) (nd:List Zae) (vars:List Int):∀ (n d w c:Nat) (l:List SmT) (b:List Bool),WSL V d w c l->d < n->c<=1000->b.length=V.length->Ret (ZNP n l A Fs s lo b nd V vars) fun r=>∃ b',r=(A,Fs,s,lo,b',nd,V,vars)/\b'.length=V.length
 | 0,d,w,c,l,b,h,hd,_,_=>by omega
 | n+1,d,w,c,l,b,h,hd,hc,hb=>by
  have hl:=h.len;show Ret (Zao (ZMc (ZNP n) l) (0,A,Fs,s,lo,b,nd,V,vars)) _;refine Zac (fun q:Int×ArT×List FnT×Int×Int×List Bool×List Zae×List ByteArray×List Int=>∃ (m w' c':Nat) (b':List Bool),q=((m:Int),A,Fs,s,lo,b',nd,V,vars)/\m<=l.length/\c'<=c/\WSL V d w' c' (l.drop m)/\b'.length=V.length) (fun q=>l.length - q.1.toNat) ?_ _ ⟨0,w,c,b,rfl,by omega,by omega,h,hb⟩;rintro _ ⟨m,w',c',b',rfl,hm,hcc,hs,hb'⟩;have hw:=Zab m (by omega);simp only [ZMc,wq,reduceCtorEq];refine ⟨fun hlt=>?_,fun hge=>⟨b',rfl,hb'⟩⟩;obtain ⟨y,w1,w2,c1,c2,hy,rfl,rfl,hy1,hy2⟩:=hs.step (by omega);have hgy:gI l (m:Int)=some y:=by rw [Zax];exact hy
  obtain ⟨d',u1,u2,k1,k2,rfl,t1,t2,t3,t4⟩:=hy1.subs;have fin:∀ b2:List Bool,b2.length=V.length->Ret (ZLL (ZNP n) l (m:Int) (A,Fs,s,lo,b2,nd,V,vars)) (Zev (fun q:Int×ArT×List FnT×Int×Int×List Bool×List Zae×List ByteArray×List Int=>∃ (m w' c':Nat) (b':List Bool),q=((m:Int),A,Fs,s,lo,b',nd,V,vars)/\m<=l.length/\c'<=c/\WSL V (d'+1) w' c' (l.drop m)/\b'.length=V.length) (fun q=>l.length - q.1.toNat) (fun r=>∃ b',r=(A,Fs,s,lo,b',nd,V,vars)/\b'.length=V.length) ((m:Int),A,Fs,s,lo,b',nd,V,vars)):=by
   intro b2 hb2;simp only [ZLL,wq,reduceCtorEq];rw [Za4 hgy];refine Ret.mono (ZLF Fs s lo nd vars n d' u1 k1 _ b2 t1 (by omega) (by omega) hb2) fun r _ ⟨b3,e3,hb3⟩=>?_;subst e3;rw [Za4 hgy];refine Ret.mono (ZLF Fs s lo nd vars n d' u2 k2 _ b3 t2 (by omega) (by omega) hb3) fun r _ ⟨b4,e4,hb4⟩=>?_;subst e4;exact ⟨⟨m+1,w2,c2,b4,by rw [hw],by omega,by omega,hy2,hb4⟩,by rw [hw];show l.length - (((m+1:Nat):Int)).toNat < l.length - ((m:Int)).toNat;omega⟩
  have mid:∀ x:Bool,Ret (ZLK l (m:Int) (x,A,Fs,s,lo,b',nd,V,vars)) fun a=>Ret (Sum.elim (ZLL (ZNP n) l (m:Int)) some a) (Zev (fun q:Int×ArT×List FnT×Int×Int×List Bool×List Zae×List ByteArray×List Int=>∃ (m w' c':Nat) (b':List Bool),q=((m:Int),A,Fs,s,lo,b',nd,V,vars)/\m<=l.length/\c'<=c/\WSL V (d'+1) w' c' (l.drop m)/\b'.length=V.length) (fun q=>l.length - q.1.toNat) (fun r=>∃ b',r=(A,Fs,s,lo,b',nd,V,vars)/\b'.length=V.length) ((m:Int),A,Fs,s,lo,b',nd,V,vars)):=by
   intro x;cases x
   ·simp only [ZLK,cond_false,ZaH,Sum.elim_inl];exact fin b' hb'
   ·simp only [ZLK,cond_true,Zmt];rw [Za4 hgy];refine Ret.mono (Zzq V (ZGo y).2.1 hV) fun r _ ⟨r1,r2,r3⟩=>?_;refine Zaj r2 (by omega) fun z hz hzm=>?_;rw [Za4 hz,ZaH,Sum.elim_inl,r1];exact fin _ (by rw [Zay,hb'])
  rw [Za4 hgy];refine ⟨fun _=>mid true,fun _=>?_⟩;rw [Za4 hgy];exact mid _
end
theorem ZJ3 {n j:Int} (h0:0<=n) (hj:0<=j/\j < 16):Int.tdiv (16 * n+j) 16=n/\Int.tmod (16 * n+j) 16=j:=by
 rw [Int.tdiv_eq_ediv_of_nonneg (by omega),Int.tmod_eq_emod_of_nonneg (by omega)];omega
theorem ZIi {O:Int->Prop} {σ:GS} (hg:GI O σ) (hn:σ.l.length<=90000) {n j:Int} (hO:O n) (h0:0<=n/\n<=15) (hj:0<=j/\j < 16) (hW:j < σ.W n):Ret (F31 3 (16 * n+j) [] σ.l) (ZJ1 O σ (if j=0 then 2 else 1)):=by
 obtain ⟨q1,q2⟩:=ZJ3 h0.1 hj;have hs:=ZJx σ.l (imm:=16 * n+j) (by omega);rw [q2] at hs;refine ZGL hg hn (by constructor<;>omega) (by omega) .nil (by simp) hs (by split<;>decide) (by decide) (fun _=>?_);rw [q1,q2];exact ⟨by omega,hO,hW⟩
theorem ZHo {O:Int->Prop} {σ:GS} (hg:GI O σ) (hn:σ.l.length<=90000) {q j:Int} {x:Zae} {m:Nat} (hq:gI σ.l q=some x) (o:OkG O σ 3 q) (hx:x.2.2.length=2 * (m+1)+1) (hm:m<=14) (hj:0<=j/\j<=m):Ret (F31 25 j [q] σ.l) (ZJ1 O σ (if j=0 then 2 else 1)):=by
 have hs:=ZI2 σ.l (imm:=j) hq (by omega) (by omega) (by omega);exact ZGL hg hn (by constructor<;>omega) (by omega) (.cons o .nil) (by simp) hs (by split<;>decide) (by decide) (fun e=>absurd e (by decide))
theorem ZJ4 {O:Int->Prop} {σ σ':GS} {k:Nat} {c q:Int} {x:Zae} (hx:Sx O σ σ' k) (o:OkG O σ c q) (h:gI σ.l q=some x):gI σ'.l q=some x:=by
 obtain ⟨⟨es,ts,e1,e2⟩,_,_⟩:=hx.le;rw [e1,ZH3 o.r.2,h]
theorem ZHX {O:Int->Prop} {σ1 σ4:GS} {n:Int} (g1:GI O σ1) (hn:n=σ1.lo) (g4:GI (fun j=>O j\/j=n) σ4) (le:Le σ1 σ4) (hb:σ4.l.length<=90000) (h15:n<=15) {s1 dd s4:Int} {ks ms:List Int} {m:Nat} (os1:OkG O σ1 2 s1) (oks:∀ q∈ks,OkG O σ1 1 q) (od:OkG (fun j=>O j\/j=n) σ4 1 dd) (os4:OkG (fun j=>O j\/j=n) σ4 2 s4) (oms:∀ q∈ms,OkG (fun j=>O j\/j=n) σ4 1 q) (lk:ks.length=m) (lm:ms.length=m) (hm:m<=14) (hW:σ4.W n=m+1):Ret (F31 31 n (s1::ks++[dd,s4]++ms) σ4.l) fun r=>∃ σ5,Le σ4 σ5/\GI O σ5/\σ5.l.length<=σ4.l.length+1/\σ5.lo=σ4.lo/\r.2=σ5.l/\OkG O σ5 3 r.1/\gI σ5.l r.1=some (31,n,s1::ks++[dd,s4]++ms):=by
 have up:∀ {c v:Int},OkG O σ1 c v->OkG O σ4 c v:=fun h=>h.le g1.t le fun _ h=>h;have up':∀ {c v:Int},OkG O σ4 c v->OkG (fun j=>O j\/j=n) σ4 c v:=fun h=>⟨h.r,h.s,fun j hj=>.inl (h.d j hj)⟩
 have hlen:(s1::ks++[dd,s4]++ms).length=2 * (m+1)+1:=by simp;omega
 have hnO:¬ O n:=fun h=>by have:=(g1.o n h).2;omega
 have n0:=g1.lo0;rw [ZAR 31 n _ σ4.l (by omega) (by omega) (fun x hx=>by have:=(g4.w x hx).k;omega),ZaH];have all:∀ q∈s1::ks++[dd,s4]++ms,∃ b,OkG (fun j=>O j\/j=n) σ4 b q:=by
  intro q hq;simp only [mem_append,mem_cons,List.not_mem_nil,or_false] at hq;rcases hq with ((rfl | hq) | (rfl | rfl)) | hq
  ·exact ⟨_,up' (up os1)⟩
  ·exact ⟨_,up' (up (oks q hq))⟩
  ·exact ⟨_,od⟩
  ·exact ⟨_,os4⟩
  ·exact ⟨_,oms q hq⟩
 have hk1:∀ (k:Nat) (q:Int),(s1::ks++[dd,s4]++ms)[k]?=some q->∃ b,OkG (fun j=>O j\/j=n) σ4 b q/\(k < (s1::ks++[dd,s4]++ms).length / 2->OkG O σ4 b q):=by
  intro k q hq;by_cases hkm:k < m+1
  ·rw [append_assoc,List.getElem?_append_left (by simp;omega)] at hq;rcases mem_cons.1 (mem_of_getElem? hq) with rfl | hq
   ·exact ⟨_,up' (up os1),fun _=>up os1⟩
   ·exact ⟨_,up' (up (oks q hq)),fun _=>up (oks q hq)⟩
  ·obtain ⟨b,hb⟩:=all q (mem_of_getElem? hq);exact ⟨b,hb,fun h=>absurd h (by omega)⟩
 have hs:F49 σ4.l (31,n,s1::ks++[dd,s4]++ms) (kS σ4.τ (31,n,s1::ks++[dd,s4]++ms))=some 3:=by
  have e:kS σ4.τ (31,n,s1::ks++[dd,s4]++ms)=ZfS (m+1):=by
   have r1:ks.map (atI σ4.τ)=replicate m 1:=List.eq_replicate_iff.2 ⟨by simp [lk],fun b hb=>by
    obtain ⟨q,hq,rfl⟩:=mem_map.1 hb;exact (up (oks q hq)).s⟩
   have r2:ms.map (atI σ4.τ)=replicate m 1:=List.eq_replicate_iff.2 ⟨by simp [lm],fun b hb=>by
    obtain ⟨q,hq,rfl⟩:=mem_map.1 hb;exact (oms q hq).s⟩
   show (s1::ks++[dd,s4]++ms).map (atI σ4.τ)=ZfS (m+1);unfold ZfS;rw [map_append,map_append,map_cons,r1,r2,(up os1).s,map_cons,map_cons,od.s,os4.s,List.replicate_succ'];simp
  rw [e];exact ZI3 σ4.l (by omega) (m+1) (by omega) (by omega) hlen
 have hw:ZHP (31,n,s1::ks++[dd,s4]++ms):=⟨⟨by constructor<;>omega,by constructor<;>(show _<=_;dsimp only;omega),by show (s1::ks++[dd,s4]++ms).length<=1000;omega,fun q hq=>by obtain ⟨b,hb'⟩:=all q hq;exact ZHC g4 hb hb'⟩,by show (s1::ks++[dd,s4]++ms).length<=40;omega⟩
 have:=ZHR (n:=(31,n,s1::ks++[dd,s4]++ms)) (m:=n) g4 hnO hw rfl rfl (by show (s1::ks++[dd,s4]++ms).length / 2=_;rw [hW];omega) hk1 hs;obtain ⟨i,ei,hi⟩:=ZGX σ4.l (31,n,s1::ks++[dd,s4]++ms);refine ⟨ZGC σ4 (31,n,s1::ks++[dd,s4]++ms) 3,ZGW _ _ _,this.1,by rw [ZGI];exact ZHl _ _,(ZIc _ _ _).2,(ZGI _ _ _).symm,this.2,?_⟩;rw [ZGI];show gI _ (ZH4 σ4.l _)=_;rw [ei,Zax,hi]
section
variable {A:ArT} (hA:A.length=2/\∀ y∈A,I64 y.2) {Fs:List FnT} {V:List ByteArray} (hV:2<=V.length/\V.length<=4)
include hA hV
theorem ZJK {O:Int->Prop} {σ:GS} (hg:GI O σ) {r25:Int×BsT} {r127:Int×List Zae} {x:Zae} {m:Nat} {wh old:List Int} {st:Int} (hn:σ.l.length<=80000) (hq:gI σ.l r127.1=some x) (oq:OkG O σ 3 r127.1) (hx:x.2.2.length=2 * (m+1)+1) (hwl:wh.length=m) (hm:m<=4) (hwh:∀ i∈wh,0<=i/\i < V.length) (hc:OkG O σ 1 r25.1) (hs:OkG O σ 2 st) (hl:old.length=V.length) (hv:∀ v∈old,OkG O σ 1 v):Ret (Zao (ZMd r25 r127) (0,A,Fs,st,σ.lo,wh,old,σ.l,V)) (StR O σ A Fs V (2 * m) 0):=by
 refine Zac (fun q:Int×ArT×List FnT×Int×Int×List Int×List Int×List Zae×List ByteArray=>∃ (k:Nat) (σ':GS) (vs:List Int),q=((k:Int),A,Fs,st,σ.lo,wh,vs,σ'.l,V)/\k<=m/\Sx O σ σ' (2 * k)/\vs.length=V.length/\∀ v∈vs,OkG O σ' 1 v) (fun q=>m - q.1.toNat) ?_ _ ⟨0,σ,old,rfl,by omega,.refl hg 0,hl,hv⟩;rintro _ ⟨k,σ',vs,rfl,hk,xs,hvs,hvv⟩;have hw:=Zab k (by omega);have hw2:wrap .i64 (1+(k:Int))=1+(k:Int):=Zau (by omega) (by omega);have:=xs.n;simp only [ZMd,wq,reduceCtorEq,hw,hw2];refine ⟨fun hlt=>?_,fun hge=>?_⟩
 ·refine Ret.mono (ZHo xs.g (by omega) (ZJ4 xs oq hq) (oq.sx hg xs) hx (by omega) (j:=1+(k:Int)) (by omega)) fun u _ ⟨σ1,x1,e1,o1⟩=>?_;rw [if_neg (by omega)] at o1;rw [e1];have:=x1.n;refine Zaj (by omega) (by omega) fun i hi him=>?_;obtain ⟨i0,i1⟩:=hwh i him;rw [Za4 hi,Za4 hi,Za4 hi];refine Zaj i0 (by omega) fun v hv hvm=>?_;rw [Za4 hv];refine Ret.mono (ZGA x1.g (by omega) (.inl rfl) ((hc.sx hg xs).sx xs.g x1) o1 ((hvv v hvm).sx xs.g x1)) fun u _ ⟨σ2,x2,e2,o2⟩=>?_;rw [e2,Za4 hv,Za4 hv];have sv:=setV (i:=i) hA hV hvs (fun v h=>((hvv v h).sx xs.g x1).sx x1.g x2) o2;exact ⟨⟨k+1,σ2,_,rfl,by omega,(xs.trans x1 (le_refl _)).trans x2 (by omega),sv.1,sv.2⟩,by omega⟩
 ·exact ⟨σ',st,vs,by rw [xs.lo],((Sx.trans xs (.refl xs.g 0) (by omega)).w 0),hs.sx hg xs,hvs,hvv⟩
theorem ZHY {R:ZJ2} {d:Nat} (hR:ZHD R A Fs V d) {O:Int->Prop} {σ:GS} {s:Int} {vars:List Int} {w c1 c2:Nat} {e:ExW} {x:List SmT} (h1:WE V 4 c1 e) (h2:WSL V d w c2 x) (hd:d<=900) (hg:GI O σ) (hn:σ.l.length+16 * (c1+c2+1)<=16000) (hlo:σ.lo+(w+1:Nat)<=12) (hs:OkG O σ 2 s) (hvl:vars.length=V.length) (hv:∀ v∈vars,OkG O σ 1 v) (hc2:c2<=1000):Ret (E67 R (ZGo (SmT.mk 4 empty empty 0 zE e [] x [])) A Fs s σ.lo σ.l V vars) (StR O σ A Fs V (16 * (c1+c2+1)) (w+1)):=by
 have lo0:=hg.lo0;unfold E67;simp only [ZGo,wq,reduceCtorEq];refine ⟨fun h=>absurd h (by decide),fun _=>⟨fun h=>absurd h (by decide),fun _=>⟨fun h=>absurd h (by decide),fun _=>⟨fun h=>absurd h (by decide),fun _=>⟨fun h=>absurd h (by decide),fun _=>⟨fun h=>absurd h (by decide),fun _=>?_⟩⟩⟩⟩⟩⟩;unfold ZOQ;rw [Zmt,Zau (n:=σ.lo+1) (by omega) (by omega)];refine Ret.mono (ZGN hA hV (σ.lo+1) h1 hg (by omega) hs hvl hv) fun r25 _ ⟨σ1,s1,e1,x1,o1,o2⟩=>?_;rw [e1];have n1:=x1.n;have l1:=x1.lo;rw [ZpI];refine ⟨fun _=>?_,fun h=>absurd h (by simp;omega)⟩;rw [Zmt];refine Ret.mono (ZLF hA hV Fs s1 (σ.lo+1) σ1.l vars 1000 d w c2 x _ h2 (by omega) hc2 (by simp;exact hvl)) fun r26 _ ⟨b,e2,hb⟩=>?_;subst e2;have hv1:=fun v h=>(hv v h).sx hg x1;refine Zac (fun q:Int×ArT×List FnT×Int×Int×List Bool×List Int×List Zae×List ByteArray×List Int=>∃ (m:Nat) (wh:List Int),q=((m:Int),A,Fs,s1,σ.lo+1,b,wh,σ1.l,V,vars)/\m<=V.length/\wh.length<=m/\∀ i∈wh,0<=i/\i < V.length) (fun q=>V.length - q.1.toNat) ?_ _ ⟨0,[],rfl,by omega,by simp,fun i h=>absurd h (by simp)⟩;rintro _ ⟨m,wh,rfl,hm,hwl,hwh⟩;have hw:=Zab m (by omega);unfold ZNm;rw [ZpI];refine ⟨fun hlt=>?_,fun hge=>?_⟩
 ·simp only [ZCj,wq,reduceCtorEq,hw] at hlt |-
  refine Zaj (by omega) hlt fun y hy hym=>?_;rw [Za4 hy];refine ⟨fun _=>⟨fun _=>⟨⟨m+1,wh++[(m:Int)],rfl,by omega,by simp;omega,fun i hi=>?_⟩,by omega⟩,fun h=>absurd h (by simp;omega)⟩,fun _=>⟨⟨m+1,wh,rfl,by omega,by omega,hwh⟩,by omega⟩⟩;rcases mem_append.1 hi with hi | hi
  ·exact hwh i hi
  ·obtain rfl:=mem_singleton.1 hi;omega
 ·have hwl:wh.length<=4:=by omega
  clear hge hw hm;rw [ZpH,ZpI];refine ⟨fun _=>?_,fun h=>absurd h (by simp;omega)⟩;rw [Zmt,Zau (n:=16 * σ.lo) (by omega) (by omega),nil_append];have g0:=ZI1 x1.g (1+wh.length);have le0:=ZI0 σ1 (1+wh.length);rw [l1] at g0;have W0:(ZHg σ1 (1+wh.length)).W σ.lo=1+wh.length:=by unfold ZHg;simp [l1]
  have lo1:(ZHg σ1 (1+wh.length)).lo=σ.lo+1:=by show σ1.lo+1=_;rw [l1]
  have p0:=ZIi g0 (by show σ1.l.length<=_;omega) (n:=σ.lo) (j:=0) (.inr rfl) (by omega) (by omega) (by rw [W0];omega);rw [Int.add_zero,if_pos rfl] at p0;generalize hσo:ZHg σ1 (1+wh.length)=σo at g0 le0 W0 lo1 p0;have elo:σo.l=σ1.l:=by rw [<-hσo];rfl
  rw [elo] at p0;refine Ret.mono p0 fun r67 _ ⟨σ2,x2,e2,o3⟩=>?_;rw [e2];have n2:=x2.n;rw [elo] at n2;have upO:∀ {c v:Int},OkG O σ1 c v->OkG (fun j=>O j\/j=σ.lo) σ2 c v:=fun h=>h.le x1.g.t (le0.trans x2.le) fun _ h=>.inl h;have W2:σ2.W σ.lo=1+wh.length:=by rw [x2.le.W σ.lo (by omega),W0]
  refine Zac (fun q:Int×ArT×List FnT×Int×Int×List Int×List Int×List Int×List Zae×List ByteArray×List Int=>∃ (k:Nat) (σ':GS) (ks vs:List Int),q=((k:Int),A,Fs,r67.1,σ.lo+1,wh,vars,s1::ks,σ'.l,V,vs)/\k<=wh.length/\Sx (fun j=>O j\/j=σ.lo) σ2 σ' k/\ks.length=k/\(∀ q∈ks,OkG O σ1 1 q)/\vs.length=V.length/\∀ v∈vs,OkG (fun j=>O j\/j=σ.lo) σ' 1 v) (fun q=>wh.length - q.1.toNat) ?_ _ ⟨0,σ2,[],vars,rfl,by omega,.refl x2.g 0,rfl,fun q h=>absurd h (by simp),hvl,fun v h=>upO (hv1 v h)⟩;rintro _ ⟨k,σ',ks,vs,rfl,hk,xs,hkl,hks,hvs,hvv⟩;have hwk:=Zab k (by omega);have ns:=xs.n;have los:=xs.lo;have los2:=x2.lo;unfold ZNl;rw [ZpI];refine ⟨fun hlt=>?_,fun hge=>?_⟩
  ·have hi16:wrap .i64 (wrap .i64 (wrap .i64 (16 * σ.lo)+1)+(k:Int))=16 * σ.lo+(1+(k:Int)):=by
    rw [Zau (n:=16 * σ.lo) (by omega) (by omega),Zau (n:=16 * σ.lo+1) (by omega) (by omega),Zau (by omega) (by omega)];omega
   simp only [wq,reduceCtorEq,hwk,hi16] at hlt |-
   refine Zaj (by omega) hlt fun i hi him=>?_;obtain ⟨i0,i1⟩:=hwh i him;rw [Za4 hi];refine Zaj i0 (by omega) fun v hv' hvm=>?_;rw [Za4 hv'];refine ⟨fun _=>?_,fun h=>absurd h (by simp;omega)⟩;rw [Za4 hi,Za4 hi];refine Ret.mono (ZIi xs.g (by omega) (n:=σ.lo) (j:=1+(k:Int)) (.inr rfl) (by omega) (by omega) (by rw [xs.le.W σ.lo (by omega),W2];omega)) fun u _ ⟨σ3,x3,e3,o4⟩=>?_;rw [if_neg (by omega)] at o4;rw [e3];refine Zaj i0 (by omega) fun v2 hv2 hvm2=>?_;rw [Za4 hv2];have sv:=setV (i:=i) hA hV hvs (fun v h=>(hvv v h).sx xs.g x3) o4;refine ⟨⟨k+1,σ3,ks++[v],_,rfl,by omega,xs.trans x3 (by omega),by simp [hkl],fun q hq=>?_,sv.1,sv.2⟩,by omega⟩;rcases mem_append.1 hq with hq | hq
   ·exact hks q hq
   ·obtain rfl:=mem_singleton.1 hq;exact hv1 _ hvm
  ·have hk':k=wh.length:=by simp at hge;omega
   clear hge hwk;rw [ZpH,Zmt];have t1:=hR (fun j=>O j\/j=σ.lo) σ' r67.1 vs w c2 x h2 xs.g (by omega) (by omega) (o3.sx x2.g xs) hvs hvv;rw [los,los2,lo1] at t1;refine Ret.mono t1 fun r99 _ ⟨σ3,s3,v3,e3,x3,o4,hl3,hv3⟩=>?_;subst e3;have n3:=x3.n;have l3:=x3.lo;rw [Zmt];refine Ret.mono (ZGN hA hV σ3.lo h1 x3.g (by omega) o4 hl3 hv3) fun r100 _ ⟨σ4,s4,e4,x4,o5,o6⟩=>?_;rw [e4,ZpI];have n4:=x4.n;have l4:=x4.lo;refine ⟨fun _=>?_,fun h=>absurd h (by simp;omega)⟩;have hv4:=fun v h=>(hv3 v h).sx x3.g x4;have le14:Le σ1 σ4:=(((le0.trans x2.le).trans xs.le).trans x3.le).trans x4.le;have W4:σ4.W σ.lo=wh.length+1:=by
    rw [x4.le.W σ.lo (by have:=x3.le.lo;omega),x3.le.W σ.lo (by omega),xs.le.W σ.lo (by omega),W2];omega
   refine Zac (fun q:Int×ArT×List FnT×Int×Int×List Int×List Int×List Int×List Zae×List ByteArray×List Int=>∃ (j:Nat) (ms:List Int),q=((j:Int),A,Fs,s4,σ3.lo,wh,vars,s1::ks++[r100.1,s4]++ms,σ4.l,V,v3)/\j<=wh.length/\ms.length=j/\∀ q∈ms,OkG (fun j=>O j\/j=σ.lo) σ4 1 q) (fun q=>wh.length - q.1.toNat) ?_ _ ⟨0,[],by simp,by omega,rfl,fun q h=>absurd h (by simp)⟩;rintro _ ⟨j,ms,rfl,hj,hml,hms⟩;have hwj:=Zab j (by omega);unfold ZNk;rw [ZpI];refine ⟨fun hlt=>?_,fun hge=>?_⟩
   ·simp only [wq,reduceCtorEq,hwj] at hlt |-
    refine Zaj (by omega) hlt fun i hi him=>?_;obtain ⟨i0,i1⟩:=hwh i him;rw [Za4 hi];refine Zaj i0 (by omega) fun v hv' hvm=>?_;rw [Za4 hv'];refine ⟨fun _=>⟨⟨j+1,ms++[v],by simp,by omega,by simp [hml],fun q hq=>?_⟩,by omega⟩,fun h=>absurd h (by simp;omega)⟩;rcases mem_append.1 hq with hq | hq
    ·exact hms q hq
    ·obtain rfl:=mem_singleton.1 hq;exact hv4 _ hvm
   ·have hj':j=wh.length:=by simp at hge;omega
    clear hge hwj;rw [ZpH,Zmt];refine Ret.mono (ZHX (m:=wh.length) x1.g l1.symm x4.g le14 (by omega) (by omega) o1 hks o6 o5 hms (by omega) (by omega) (by omega) W4) fun r127 _ ⟨σ5,le5,g5,n5,l5,e5,o7,q5⟩=>?_;have le15:=le14.trans le5;have up5:∀ {c v:Int},OkG O σ1 c v->OkG O σ5 c v:=fun h=>h.le x1.g.t le15 fun _ h=>h;have kl:(s1::ks++[r100.1,s4]++ms).length=2 * (wh.length+1)+1:=by simp;omega
    rw [e5,Zmt];refine Ret.mono (ZHo g5 (by omega) q5 o7 kl (by omega) (j:=0) (by omega)) fun r128 _ ⟨σ6,x6,e6,o8⟩=>?_;rw [if_pos rfl] at o8;have n6:=x6.n;rw [e6,Zmt];refine Ret.mono (ZGA x6.g (by omega) (.inr rfl) ((up5 o2).sx g5 x6) o8 ((up5 o1).sx g5 x6)) fun r129 _ ⟨σ7,x7,e7,o9⟩=>?_;rw [e7];have n7:=x7.n;have x57:=x6.trans x7 (le_refl _);have t4:=ZJK hA hV (Fs:=Fs) (r25:=r25) (r127:=r127) (wh:=wh) (old:=vars) (m:=wh.length) x7.g (by omega) (ZJ4 x57 o7 q5) (o7.sx g5 x57) kl rfl (by omega) hwh ((up5 o2).sx g5 x57) o9 hvl (fun v h=>(up5 (hv1 v h)).sx g5 x57);rw [x57.lo,l5,l4] at t4;refine Ret.mono t4 fun r _ ⟨σ8,s8,v8,e8,x8,o10,hl8,hv8⟩=>?_;have n8:=x8.n;have l8:=x8.lo;have l57:=x57.lo;exact ⟨σ8,s8,v8,e8,⟨(x1.le.trans le15).trans (x57.le.trans x8.le),x8.g,by omega,by omega⟩,o10,hl8,hv8⟩
end
section
variable {A:ArT} (hA:A.length=2/\∀ y∈A,I64 y.2) {Fs:List FnT} {V:List ByteArray} (hV:2<=V.length/\V.length<=4) (hF:Z0s (A,Fs) nmF=some 0/\Z0s (A,Fs) nmG=some 1)
include hA hV hF
theorem ZI4 {R:ZJ2} {d:Nat} (hR:ZHD R A Fs V d) {O:Int->Prop} {σ:GS} {s:Int} {vars:List Int} {w c:Nat} {y:SmT} (h:WS V (d+1) w c y) (hd:d<=900) (hc:c<=1000) (hg:GI O σ) (hn:σ.l.length+16 * c<=16000) (hlo:σ.lo+w<=12) (hs:OkG O σ 2 s) (hvl:vars.length=V.length) (hv:∀ v∈vars,OkG O σ 1 v):Ret (E67 R (ZGo y) A Fs s σ.lo σ.l V vars) (StR O σ A Fs V (16 * c) w):=by
 have Zwf:=fun hk=>ZHE hA hV hF hR h hk hg hn hs hvl hv;cases h with
 | ite h1 h2 h3=>exact ZHW hA hV hR h1 h2 h3 hg hn hlo hs hvl hv
 | whl h1 h2=>exact ZHY hA hV hR h1 h2 hd hg hn hlo hs hvl hv (by omega)
 | _=>exact Zwf ⟨by simp [ZGo],by simp [ZGo]⟩
theorem ZNt:∀ (n d:Nat),d < n->d<=900->∀ (O:Int->Prop) (σ:GS) (s:Int) (vars:List Int) (w c:Nat) (l:List SmT),c<=1000->WSL V d w c l->GI O σ->σ.l.length+16 * c<=16000->σ.lo+w<=12->OkG O σ 2 s->vars.length=V.length->(∀ v∈vars,OkG O σ 1 v)->Ret (N32 n l A Fs s σ.lo σ.l V vars) (StR O σ A Fs V (16 * c) w)
 | 0,d,hd,_,_,_,_,_,_,_,_,_,_,_,_,_,_,_,_=>by omega
 | n+1,d,hd,hd9,O,σ,s,vars,w,c,l,hc,h,hg,hn,hlo,hs,hvl,hv=>by
  have hl:=h.len;show Ret (Zao (Z99 (N32 n) l) (0,A,Fs,s,σ.lo,σ.l,V,vars)) _;refine Zac (fun q:Int×ArT×List FnT×Int×Int×List Zae×List ByteArray×List Int=>∃ (m w' c' k v:Nat) (σ':GS) (s':Int) (vs:List Int),q=((m:Int),A,Fs,s',σ'.lo,σ'.l,V,vs)/\m<=l.length/\WSL V d w' c' (l.drop m)/\Sw O σ σ' k v/\k+16 * c'=16 * c/\v+w'=w/\OkG O σ' 2 s'/\vs.length=V.length/\∀ v∈vs,OkG O σ' 1 v) (fun q=>l.length - q.1.toNat) ?_ _ ⟨0,w,c,0,0,σ,s,vars,rfl,by omega,h,(Sx.refl hg 0).w 0,by omega,by omega,hs,hvl,hv⟩;rintro _ ⟨m,w',c',k,v,σ',s',vs,rfl,hm,hs',xs,hk,hvw,hss,hvs,hvv⟩;have hw:=Zab m (by omega);have n1:=xs.n;have l1:=xs.lo;simp only [Z99,wq,reduceCtorEq,hw];refine ⟨fun hlt=>?_,fun hge=>?_⟩
  ·obtain ⟨y,w1,w2,c1,c2,hy,rfl,rfl,hy1,hy2⟩:=hs'.step (by omega);have hgy:gI l (m:Int)=some y:=by rw [Zax];exact hy
   rw [Za4 hgy];obtain ⟨d',_,_,_,_,rfl,_⟩:=hy1.subs;have hR:∀ (O:Int->Prop) (σ:GS) (s:Int) (vars:List Int) (w c:Nat) (l:List SmT),c<=1000->WSL V d' w c l->GI O σ->σ.l.length+16 * c<=16000->σ.lo+w<=12->OkG O σ 2 s->vars.length=V.length->(∀ v∈vars,OkG O σ 1 v)->Ret (N32 n l A Fs s σ.lo σ.l V vars) (StR O σ A Fs V (16 * c) w):=ZNt n d' (by omega) (by omega);have hR':ZHD (N32 n) A Fs V d':=fun O σ s vars w c l a b c1 d1 e1 f1 g1=>hR O σ s vars w c l (by omega) a b c1 d1 e1 f1 g1;refine Ret.mono (ZI4 hA hV hF hR' hy1 (by omega) (by omega) xs.g (by omega) (by omega) hss hvs hvv) fun r _ ⟨σ2,s2,v2,e2,x2,o2,hl2,hv2⟩=>?_;subst e2;exact ⟨⟨m+1,w2,c2,k+16 * c1,v+w1,σ2,s2,v2,rfl,by omega,hy2,xs.trans x2 (le_refl _) (le_refl _),by omega,by omega,o2,hl2,hv2⟩,by omega⟩
  ·exact ⟨σ',s',vs,rfl,⟨xs.le,xs.g,by omega,by omega⟩,hss,hvs,hvv⟩
end
abbrev FO:Int->Prop:=fun _=>False
def σ0:GS:=⟨[],[],fun _=>0,0⟩
theorem g0:GI FO σ0:=⟨.nil,List.nodup_nil,fun x h=>absurd h (by simp [σ0]),fun x h=>absurd h (by simp [σ0]),fun x h=>absurd h (by simp [σ0]),fun x h=>absurd h (by simp [σ0]),fun j h=>h.elim,by simp [σ0]⟩
structure ZJ8 (g:GrT):Prop where
 wf:WfP g
 w:ZhX g.2.2.1
 n:g.2.2.1.length<=2000
 k:∀ x∈g.2.2.1,x.2.2.length<=40
 p:0 < g.2.2.1.length
theorem ZK5 {σ:GS} (h:GI FO σ) {v t:Int} (hv:OkG FO σ 1 v) (ht:OkG FO σ 2 t) (hn:σ.l.length<=2000) (nm:ByteArray) (pr:Int):ZJ8 (nm,pr,σ.l,v,t):=⟨h.wf hv ht nm pr,⟨⟨by show σ.l.length<=100000;omega,fun x hx=>(h.w x hx).k⟩,fun x hx=>(h.w x hx).toNodeW⟩,hn,fun x hx=>(h.w x hx).kl,by have h1:=hv.r.1;have h2:=hv.r.2;show 0 < σ.l.length;omega⟩
abbrev UnT:=ArT×List GrT
theorem ZNC {p:PrT} (hp:PrP p):Ret (F15 p) fun r=>r.1.1.length=2/\r.1.2.length=2/\∀ g∈r.1.2,ZJ8 g:=by
 obtain ⟨n1,n2,b1,b2,v1,v2,w1,w2,c1,c2,hpe,h1,h2,hw,hc,f1,f2⟩:=hp;have hck:=ZBn h1 h2 hw hc f1 f2;obtain ⟨_,hFn⟩:=ZHn h1 h2 hw hc f1 f2;have hff:=ZvG n1 n2 b1 b2 v1 v2;have l1:(prF n1 n2 b1 b2 v1 v2).1.length=2:=rfl;have l2:(prF n1 n2 b1 b2 v1 v2).2.length=2:=rfl;have hAi:∀ y∈(prF n1 n2 b1 b2 v1 v2).1,I64 y.2:=by
  intro y hy;rcases mem_cons.1 hy with rfl | hy
  ·show I64 n1;constructor<;>omega
  ·obtain rfl:=mem_singleton.1 hy;show I64 n2;constructor<;>omega
 rw [<-hpe] at hck hFn hff l1 l2 hAi;clear hpe f1 f2;have hA:p.1.length=2/\∀ y∈p.1,I64 y.2:=⟨l1,hAi⟩
 have hF:Z0s (p.1,p.2) nmF=some 0/\Z0s (p.1,p.2) nmG=some 1:=hff;simp only [F15,hck,wq,reduceCtorEq];refine ⟨fun _=>?_,fun h=>absurd h (by simp;omega)⟩;refine Zac (fun q:Int×ArT×List GrT=>∃ m:Nat,q.1=m/\m<=2/\q.2.1.length=2/\q.2.2.length=m/\∀ g∈q.2.2,ZJ8 g) (fun q=>2 - q.1.toNat) ?_ _ ⟨0,rfl,by omega,by simpa using l1,rfl,fun g h=>absurd h (by simp)⟩;rintro ⟨_,u9,gs⟩ ⟨m,rfl,hm,hu9,hgl,hgs⟩;dsimp only at hu9 hgl hgs;have hwm:=Zab m (by omega);unfold ZJb;rw [ZpI];refine ⟨fun hlt=>?_,fun hge=>?_⟩
 ·rw [decide_eq_true_eq,l2] at hlt;rw [Zmt];refine Zaj (by omega) (by omega) fun y hy hym=>?_;obtain ⟨⟨f,w,c,ev,ew,ec,d,k1,k2,ed,ek,es,ee⟩,en,el⟩:=hFn y hym;have hV:=ZG7 f;have lenV:y.2.1.length+y.2.2.1.length=(ZGp f).length:=by rw [<-ev,length_append]
  rw [Zmt];have pe:=ZGr g0 (by simp [σ0]) .entry ZGM rfl .nil;refine Ret.mono pe fun r12 _ ⟨σ1,x1,e1,o1⟩=>?_;rw [e1];have n1:=x1.n;have z0:σ0.l.length=0:=rfl;have lo1:σ1.lo=0:=x1.lo;refine Zac (fun q:Int×ArT×List FnT×Int×Int×ArT×List GrT×List Zae×List ByteArray×List Int=>∃ (k:Nat) (σ':GS) (vs:List Int),q=((k:Int),p.1,p.2,r12.1,0,u9,gs,σ'.l,y.2.1.take k,vs)/\k<=y.2.1.length/\Sx FO σ1 σ' k/\vs.length=k/\∀ v∈vs,OkG FO σ' 1 v) (fun q=>y.2.1.length - q.1.toNat) ?_ _ ⟨0,σ1,[],rfl,by omega,.refl x1.g 0,rfl,fun v h=>absurd h (by simp)⟩;rintro _ ⟨k,σ2,vs,rfl,hk,x2,hvl,hv⟩;have hwk:=Zab k (by omega);have n2:=x2.n;unfold ZJa;rw [ZpI];refine ⟨fun hlt=>?_,fun hge=>?_⟩
  ·simp only [wq,reduceCtorEq,hwk] at hlt |-
   refine Zaj (by omega) hlt fun nm hnm hnmm=>?_;rw [Zax] at hnm;refine ⟨fun _=>?_,fun h=>absurd h (by simp;omega)⟩;refine Ret.mono (ZGr x2.g (by omega) .par (imm:=(k:Int)) (by constructor<;>omega) (by unfold Zfk;simp;omega) .nil) fun r42 _ ⟨σ3,x3,e3,o3⟩=>?_;rw [e3];refine ⟨fun _=>⟨⟨k+1,σ3,vs++[r42.1],by rw [take_add_one,hnm];rfl,by omega,x2.trans x3 (le_refl _),by simp [hvl],fun v hv'=>?_⟩,by omega⟩,fun h=>absurd h (by simp;omega)⟩;rcases mem_append.1 hv' with hv' | hv'
   ·exact (hv v hv').sx x2.g x3
   ·obtain rfl:=mem_singleton.1 hv';exact o3
  ·have hk':k=y.2.1.length:=by simp at hge;omega
   rw [ZpH,List.take_of_length_le (by omega)];clear hge hwk;refine Zac (fun q:Int×ArT×List FnT×Int×Int×ArT×List GrT×List Zae×List ByteArray×List Int=>∃ (j:Nat) (σ':GS) (vs:List Int),q=((j:Int),p.1,p.2,r12.1,0,u9,gs,σ'.l,y.2.1++y.2.2.1.take j,vs)/\j<=y.2.2.1.length/\Sx FO σ2 σ' j/\vs.length=k+j/\∀ v∈vs,OkG FO σ' 1 v) (fun q=>y.2.2.1.length - q.1.toNat) ?_ _ ⟨0,σ2,vs,by simp,by omega,.refl x2.g 0,by omega,hv⟩;rintro _ ⟨j,σ3,vs3,rfl,hj,x3,hvl3,hv3⟩;have hwj:=Zab j (by omega);have n3:=x3.n;unfold ZOd;rw [ZpI];refine ⟨fun hlt=>?_,fun hge=>?_⟩
   ·simp only [wq,reduceCtorEq,hwj] at hlt |-
    refine Zaj (by omega) hlt fun nm hnm hnmm=>?_;rw [Zax] at hnm;refine ⟨fun _=>?_,fun h=>absurd h (by simp;omega)⟩;refine Ret.mono (ZGr x3.g (by omega) .con ZGM rfl .nil) fun r64 _ ⟨σ4,x4,e4,o4⟩=>?_;rw [e4];refine ⟨fun _=>⟨⟨j+1,σ4,vs3++[r64.1],by rw [take_add_one,hnm,append_assoc];rfl,by omega,x3.trans x4 (le_refl _),by simp [hvl3];omega,fun v hv'=>?_⟩,by omega⟩,fun h=>absurd h (by simp;omega)⟩;rcases mem_append.1 hv' with hv' | hv'
    ·exact (hv3 v hv').sx x3.g x4
    ·obtain rfl:=mem_singleton.1 hv';exact o4
   ·have hj':j=y.2.2.1.length:=by simp at hge;omega
    rw [ZpH,List.take_of_length_le (by omega),ev];clear hge hwj;have lo3:σ3.lo=0:=by rw [x3.lo,x2.lo,lo1]
    have st3:OkG FO σ3 2 r12.1:=(o1.sx x1.g x2).sx x2.g x3;have t:=ZNt hA hV hF 1000 d (by omega) (by omega) FO σ3 r12.1 vs3 w k1 y.2.2.2.1 (by omega) es x3.g (by omega) (by omega) st3 (by omega) hv3;rw [lo3] at t;rw [Zmt];refine Ret.mono t fun r65 _ ⟨σ4,s4,v4,e4,x4,o4,hl4,hv4⟩=>?_;subst e4;have n4:=x4.n;rw [Zmt];refine Ret.mono (ZGN hA hV σ4.lo ee x4.g (by omega) o4 hl4 hv4) fun r66 _ ⟨σ5,s5,e5,x5,o5,o6⟩=>?_;rw [e5];have n5:=x5.n;simp only [wq,reduceCtorEq];refine ⟨fun h=>absurd h (by omega),fun _=>⟨fun _=>⟨⟨m+1,by rw [hwm],by omega,hu9,by simp [hgl],fun g hg=>?_⟩,?_⟩,fun h=>absurd h (by simp;omega)⟩⟩
    ·rcases mem_append.1 hg with hg | hg
     ·exact hgs g hg
     ·obtain rfl:=mem_singleton.1 hg;exact ZK5 x5.g o6 o5 (by omega) _ _
    ·rw [hwm];show 2 - (((m+1:Nat):Int)).toNat < 2 - ((m:Int)).toNat;omega
 ·rw [decide_eq_false_iff_not,l2] at hge;exact ⟨_,rfl,hu9,by show gs.length=2;omega,hgs⟩
theorem ZOx (l:List Int) (hl:ZGD l) (hn:l.length<=9223372036854775807):Ret (F5 l) fun u=>u.1.length=2/\u.2.length=2/\∀ g∈u.2,ZJ8 g:=by
 simp only [F5,wq,reduceCtorEq];exact Ret.mono (ZOv l hl hn) fun p _ hp=>ZNC hp
def kk (x:Zae) (k:Nat):Int:=x.2.2[k]?.getD 0
def nA (L:List Zae) (i:Int):Zae:=L[i.toNat]?.getD (0,0,[])
def isC (L:List Zae) (i n:Int):Bool:=(nA L i).1==1&&(nA L i).2.1==n
def Zjl (lens:List Int) (k:Int):Int:=if 0<=k/\k < lens.length then atI lens k else -1
def inB (L:List Zae) (lens:List Int) (c i k:Int):Bool:=decide (0<=Zjl lens k)&&(nA L c).1==19&&kk (nA L c) 0==i&&isC L (kk (nA L c) 1) (Zjl lens k)
def zT (L:List Zae) (i b:Int):Bool:=(nA L i).1==15&&kk (nA L i) 0==b&&isC L (kk (nA L i) 1) 0
def ZLG (L:List Zae) (d:Int):Option (Int×Int):=
 if (nA L d).1=4 then
  if zT L (kk (nA L d) 1) (kk (nA L d) 0)=true then some (kk (nA L d) 0,kk (nA L d) 1)
  else if zT L (kk (nA L d) 0) (kk (nA L d) 1)=true then some (kk (nA L d) 1,kk (nA L d) 0)
  else none
 else none
def ZLh (L:List Zae) (lens:List Int) (a m:Int):Option Zae:=
 if (nA L a).1=7\/(nA L a).1=8 then
  match ZLG L (kk (nA L a) 1) with
  | some (b,e)=>if (nA L m).1=4/\kk (nA L m) 0=e/\isC L (kk (nA L m) 1) (-1)=true then some ((nA L a).1,(nA L a).2.1,[kk (nA L a) 0,b]) else none
  | none=>none
 else if (nA L a).1=23 then
  if (nA L (kk (nA L a) 1)).1=9/\kk (nA L (kk (nA L a) 1)) 1=m/\(nA L m).1=20/\inB L lens (kk (nA L m) 0) (kk (nA L (kk (nA L a) 1)) 0) (nA L a).2.1=true then
   some (23,(nA L a).2.1,[kk (nA L a) 0,kk (nA L (kk (nA L a) 1)) 0])
  else none
 else none
def ZLe (L:List Zae) (n:Zae):Zae:=
 if (nA L (kk n 0)).1=1/\((nA L (kk n 1)).1≠1\/(nA L (kk n 0)).2.1 > (nA L (kk n 1)).2.1) then (4,n.2.1,[kk n 1,kk n 0]) else n
def plM (L:List Zae) (n:Zae):Int×List Zae:=(ZH4 L n,ZHQ L n)
def inM (lens:List Int) (L:List Zae) (n:Zae):Int×List Zae:=
 if n.1=4 then plM L (ZLe L n)
 else if n.1=5/\(nA L (kk n 1)).1=1 then
  let c:=plM L (1,wrap .i64 (-(nA L (kk n 1)).2.1),[])
  plM c.2 (ZLe c.2 (4,0,[kk n 0,c.1]))
 else if n.1=9 then
  match ZLh L lens (kk n 0) (kk n 1) with
  | some x=>plM L x
  | none=>plM L n
 else if n.1=22/\(kk n 1=kk n 2\/(nA L (kk n 1)).1=28/\kk (nA L (kk n 1)) 0=kk n 2/\inB L lens (kk n 0) (kk (nA L (kk n 1)) 1) (nA L (kk n 1)).2.1=true) then (kk n 1,L)
 else plM L n
structure PoolH (L:List Zae):Prop where
 k:∀ (i:Nat) x,L[i]?=some x->∀ q∈x.2.2,0<=q/\q < i
 a:∀ x∈L,∀ m:Nat,ZaY x.1=((m:Int),true)->x.2.2.length=m
theorem PoolH.nil:PoolH []:=⟨fun i x h=>by simp at h,fun x h=>by simp at h⟩
theorem PoolH.plM {L:List Zae} (h:PoolH L) {n:Zae} (hk:∀ q∈n.2.2,inR L.length q) (ha:∀ m:Nat,ZaY n.1=((m:Int),true)->n.2.2.length=m):PoolH (plM L n).2/\inR (plM L n).2.length (plM L n).1/\(plM L n).2.length<=L.length+1/\(∃ es,(plM L n).2=L++es)/\(plM L n).2[(plM L n).1.toNat]?=some n:=by
 obtain ⟨i,ei,hi⟩:=ZGX L n;have hil:=ZaA hi;have e1:(Go.Dat.plM L n).1=(i:Int):=ei;have e2:(Go.Dat.plM L n).2=ZHQ L n:=rfl;rw [e1,e2];refine ⟨?_,⟨by omega,by omega⟩,ZHl L n,?_,hi⟩
 ·unfold ZHQ;split
  ·exact h
  ·refine ⟨fun i x hx q hq=>?_,fun x hx m hm=>?_⟩
   ·by_cases hlt:i < L.length
    ·rw [List.getElem?_append_left hlt] at hx;exact h.k i x hx q hq
    ·have hi2:i=L.length:=by have:=ZaA hx;simp at this;omega
     subst hi2;rw [List.getElem?_append_right (le_refl _)] at hx;simp at hx;subst hx;exact hk q hq
   ·rcases mem_append.1 hx with hx | hx
    ·exact h.a x hx m hm
    ·obtain rfl:=mem_singleton.1 hx;exact ha m hm
 ·unfold ZHQ;split
  ·exact ⟨[],by simp⟩
  ·exact ⟨[n],rfl⟩
theorem ZKS {L:List Zae} {i:Int} (h:inR L.length i):L[i.toNat]?=some (nA L i):=by
 have h1:=h.1;have h2:=h.2
 unfold nA;rw [getElem?_eq_getElem (by omega)];rfl
theorem ZKF {L:List Zae} {i:Int} (h:inR L.length i):nA L i∈L:=mem_of_getElem? (ZKS h)
theorem PoolH.kid {L:List Zae} (h:PoolH L) {i:Int} (hi:inR L.length i) {m k:Nat} (ha:ZaY (nA L i).1=((m:Int),true)) (hk:k < m):0<=kk (nA L i) k/\kk (nA L i) k < i:=by
 have hl:=h.a _ (ZKF hi) m ha;have h2:=h.k _ _ (ZKS hi) (kk (nA L i) k) (by
  unfold kk;rw [getElem?_eq_getElem (by omega)];exact getElem_mem _)
 have:=hi.1;omega
theorem PoolH.kidR {L:List Zae} (h:PoolH L) {i:Int} (hi:inR L.length i) {m k:Nat} (ha:ZaY (nA L i).1=((m:Int),true)) (hk:k < m):inR L.length (kk (nA L i) k):=by
 have:=h.kid hi ha hk;exact ⟨this.1,by have:=hi.2;omega⟩
structure InR (L:List Zae) (r:Int×List Zae) (k:Nat):Prop where
 p:PoolH r.2
 i:inR r.2.length r.1
 n:r.2.length<=L.length+k
 e:∃ es,r.2=L++es
theorem ZK6 {n:Zae} {m k:Nat} (h:n.2.2.length=m) (hk:k < m):kk n k∈n.2.2:=by
 unfold kk;rw [getElem?_eq_getElem (by omega)];exact getElem_mem _
section
variable {L:List Zae} (h:PoolH L)
include h
theorem ZKT {n:Zae} (hk:∀ q∈n.2.2,inR L.length q) (ha:∀ m:Nat,ZaY n.1=((m:Int),true)->n.2.2.length=m):InR L (plM L n) 1:=by
 obtain ⟨a,b,c,d,_⟩:=h.plM hk ha;exact ⟨a,b,c,d⟩
theorem ZMz {n:Zae} (h4:n.1=4) (hl:n.2.2.length=2) (hk:∀ q∈n.2.2,inR L.length q):InR L (plM L (ZLe L n)) 1:=by
 have a0:=hk _ (ZK6 (k:=0) hl (by omega));have a1:=hk _ (ZK6 (k:=1) hl (by omega));unfold ZLe;split
 ·refine ZKT h (fun q hq=>?_) (fun m hm=>?_)
  ·simp at hq;rcases hq with rfl | rfl
   ·exact a1
   ·exact a0
  ·have:ZaY 4=((m:Int),true):=hm;simp [ZaY] at this;show 2=m;omega
 ·refine ZKT h hk (fun m hm=>?_);rw [h4] at hm;simp [ZaY] at hm;omega
theorem ZND {d b e:Int} (hd:inR L.length d) (hh:ZLG L d=some (b,e)):inR L.length b/\inR L.length e/\b < d/\e < d:=by
 unfold ZLG at hh;split at hh
 ·rename_i h4;have ar:ZaY (nA L d).1=(((2:Nat):Int),true):=by rw [h4];rfl
  have k0:=h.kid hd ar (k:=0) (by omega);have k1:=h.kid hd ar (k:=1) (by omega);have r0:=h.kidR hd ar (k:=0) (by omega);have r1:=h.kidR hd ar (k:=1) (by omega);split at hh
  ·cases hh;exact ⟨r0,r1,k0.2,k1.2⟩
  ·split at hh
   ·cases hh;exact ⟨r1,r0,k1.2,k0.2⟩
   ·cases hh
 ·cases hh
theorem ZKW {lens:List Int} {a m:Int} {x:Zae} (ha:inR L.length a) (hx:ZLh L lens a m=some x):(x.1=7\/x.1=8\/x.1=23)/\x.2.2.length=2/\x.2.1=(nA L a).2.1/\(∀ q∈x.2.2,inR L.length q/\q < a):=by
 unfold ZLh at hx;split at hx
 ·rename_i h78;have ar:ZaY (nA L a).1=(((2:Nat):Int),true):=by rcases h78 with e | e<;>rw [e]<;>rfl
  have k0:=h.kid ha ar (k:=0) (by omega);have k1:=h.kid ha ar (k:=1) (by omega);have r0:=h.kidR ha ar (k:=0) (by omega);have r1:=h.kidR ha ar (k:=1) (by omega);cases hd:ZLG L (kk (nA L a) 1) with
  | none=>rw [hd] at hx;cases hx
  | some be=>
   obtain ⟨b,e⟩:=be;rw [hd] at hx;dsimp only at hx;obtain ⟨b1,b2,b3,b4⟩:=ZND h r1 hd;split at hx
   ·cases hx;refine ⟨by rcases h78 with e | e<;>simp [e],rfl,rfl,fun q hq=>?_⟩;simp at hq;rcases hq with rfl | rfl
    ·exact ⟨r0,k0.2⟩
    ·exact ⟨b1,by omega⟩
   ·cases hx
 ·split at hx
  ·rename_i h23;have ar:ZaY (nA L a).1=(((2:Nat):Int),true):=by rw [h23];rfl
   have k0:=h.kid ha ar (k:=0) (by omega);have k1:=h.kid ha ar (k:=1) (by omega);have r0:=h.kidR ha ar (k:=0) (by omega);have r1:=h.kidR ha ar (k:=1) (by omega);split at hx
   ·rename_i hc;have ar2:ZaY (nA L (kk (nA L a) 1)).1=(((2:Nat):Int),true):=by rw [hc.1];rfl
    have j0:=h.kid r1 ar2 (k:=0) (by omega);have s0:=h.kidR r1 ar2 (k:=0) (by omega);cases hx;refine ⟨.inr (.inr rfl),rfl,rfl,fun q hq=>?_⟩;simp at hq;rcases hq with rfl | rfl
    ·exact ⟨r0,k0.2⟩
    ·exact ⟨s0,by omega⟩
   ·cases hx
  ·cases hx
theorem ZOy (lens:List Int) {n:Zae} (hk:∀ q∈n.2.2,inR L.length q) (ha:∀ m:Nat,ZaY n.1=((m:Int),true)->n.2.2.length=m):InR L (inM lens L n) 2:=by
 have up:∀ {r:Int×List Zae},InR L r 1->InR L r 2:=fun h=>⟨h.p,h.i,by have:=h.n;omega,h.e⟩
 have pl:=up (ZKT h hk ha);unfold inM;split
 ·rename_i h4;exact up (ZMz h h4 (ha 2 (by rw [h4];rfl)) hk)
 ·split
  ·rename_i h4 h5;have hl:n.2.2.length=2:=ha 2 (by rw [h5.1];rfl);have a0:=hk _ (ZK6 (k:=0) hl (by omega));obtain ⟨c1,c2,c3,⟨es,c4⟩⟩:=ZKT h (n:=(1,wrap .i64 (-(nA L (kk n 1)).2.1),[])) (fun q hq=>absurd hq (by simp)) (fun m hm=>by
    have:ZaY 1=((m:Int),true):=hm;simp [ZaY] at this;show 0=m;omega)
   have:=ZMz c1 (n:=(4,0,[kk n 0,(plM L (1,wrap .i64 (-(nA L (kk n 1)).2.1),[])).1])) rfl rfl (fun q hq=>by
    simp at hq;rcases hq with rfl | rfl
    ·exact ⟨a0.1,by rw [c4,length_append];have:=a0.2;omega⟩
    ·exact c2)
   obtain ⟨d1,d2,d3,⟨fs,d4⟩⟩:=this;dsimp only;exact ⟨d1,d2,by omega,⟨es++fs,by rw [d4,c4,append_assoc]⟩⟩
  ·split
   ·rename_i h4 h5 h9;have hl:n.2.2.length=2:=ha 2 (by rw [h9];rfl);have a0:=hk _ (ZK6 (k:=0) hl (by omega));cases hx:ZLh L lens (kk n 0) (kk n 1) with
    | none=>exact pl
    | some x=>
     obtain ⟨x1,x2,x3,x4⟩:=ZKW h a0 hx;refine up (ZKT h (fun q hq=>(x4 q hq).1) (fun m hm=>?_));rcases x1 with e | e | e<;>rw [e] at hm<;>simp [ZaY] at hm<;>omega
   ·split
    ·rename_i h4 h5 h9 h22;have hl:n.2.2.length=3:=ha 3 (by rw [h22.1];rfl);exact ⟨h,hk _ (ZK6 (k:=1) hl (by omega)),by show L.length<=L.length+2;omega,[],by simp⟩
    ·exact pl
end
inductive HB (L:List Zae):Nat->Int->Prop
 | mk {b i}:inR L.length i->(∀ q∈(nA L i).2.2,HB L b q)->HB L (b+1) i
theorem HB.r {L:List Zae} {b:Nat} {i:Int} (h:HB L b i):inR L.length i:=by cases h;assumption
theorem HB.mono {L:List Zae} {b:Nat} {i:Int} (h:HB L b i):∀ {c:Nat},b<=c->HB L c i:=by
 induction h with
 | mk h1 _ ih=>
  intro c hc;obtain ⟨d,rfl⟩:∃ d,c=d+1:=⟨c - 1,by omega⟩
  exact .mk h1 fun q hq=>ih q hq (by omega)
theorem ZKM {L es:List Zae} {i:Int} (h:inR L.length i):nA (L++es) i=nA L i:=by
 have h1:=h.1;have h2:=h.2
 unfold nA;rw [List.getElem?_append_left (by omega)]
theorem HB.app {L:List Zae} {b:Nat} {i:Int} (h:HB L b i) (es:List Zae):HB (L++es) b i:=by
 induction h with
 | @mk b i h1 _ ih=>
  refine .mk ⟨h1.1,by rw [length_append];have:=h1.2;omega⟩ fun q hq=>?_;rw [ZKM h1] at hq;exact ih q hq
theorem HB.kid {L:List Zae} {b:Nat} {i:Int} (h:HB L b i) {q:Int} (hq:q∈(nA L i).2.2):∃ c,b=c+1/\HB L c q:=by
 cases h with | mk h1 h2=>exact ⟨_,rfl,h2 q hq⟩
section
variable {L:List Zae} (h:PoolH L)
include h
theorem ZL3 {n:Zae} {b:Nat} (hk:∀ q∈n.2.2,HB L b q) (ha:∀ m:Nat,ZaY n.1=((m:Int),true)->n.2.2.length=m):HB (plM L n).2 (b+1) (plM L n).1:=by
 obtain ⟨p1,p2,p3,⟨es,p4⟩,p5⟩:=h.plM (fun q hq=>(hk q hq).r) ha;refine .mk p2 fun q hq=>?_;have e:nA (plM L n).2 (plM L n).1=n:=by unfold nA;rw [p5];rfl
 rw [e] at hq;rw [p4];exact (hk q hq).app es
theorem ZNE {i:Int} {b m k:Nat} (hb:HB L b i) (ha:ZaY (nA L i).1=((m:Int),true)) (hk:k < m):∃ c,b=c+1/\HB L c (kk (nA L i) k):=hb.kid (ZK6 (h.a _ (ZKF hb.r) m ha) hk)
theorem ZM0 {n:Zae} {b:Nat} (h4:n.1=4) (hl:n.2.2.length=2) (hk:∀ q∈n.2.2,HB L b q):HB (plM L (ZLe L n)).2 (b+1) (plM L (ZLe L n)).1:=by
 have a0:=hk _ (ZK6 (k:=0) hl (by omega));have a1:=hk _ (ZK6 (k:=1) hl (by omega));unfold ZLe;split
 ·refine ZL3 h (fun q hq=>?_) (fun m hm=>?_)
  ·simp at hq;rcases hq with rfl | rfl
   ·exact a1
   ·exact a0
  ·have:ZaY 4=((m:Int),true):=hm;simp [ZaY] at this;show 2=m;omega
 ·refine ZL3 h hk (fun m hm=>?_);rw [h4] at hm;simp [ZaY] at hm;omega
theorem ZNF {lens:List Int} {a m:Int} {x:Zae} {b:Nat} (ha:HB L b a) (hx:ZLh L lens a m=some x):∀ q∈x.2.2,HB L b q:=by
 unfold ZLh at hx;split at hx
 ·rename_i h78;have ar:ZaY (nA L a).1=(((2:Nat):Int),true):=by rcases h78 with e | e<;>rw [e]<;>rfl
  obtain ⟨c,rfl,k0⟩:=ZNE h ha ar (k:=0) (by omega);obtain ⟨c',e',k1⟩:=ZNE h ha ar (k:=1) (by omega);obtain rfl:c=c':=by omega
  cases hd:ZLG L (kk (nA L a) 1) with
  | none=>rw [hd] at hx;cases hx
  | some be=>
   obtain ⟨bb,e⟩:=be;rw [hd] at hx;dsimp only at hx;have hbb:HB L (c+1) bb:=by
    unfold ZLG at hd;split at hd
    ·rename_i h4;have ar2:ZaY (nA L (kk (nA L a) 1)).1=(((2:Nat):Int),true):=by rw [h4];rfl
     obtain ⟨d,e1,j0⟩:=ZNE h k1 ar2 (k:=0) (by omega);obtain ⟨d',e2,j1⟩:=ZNE h k1 ar2 (k:=1) (by omega);split at hd
     ·cases hd;exact j0.mono (by omega)
     ·split at hd
      ·cases hd;exact j1.mono (by omega)
      ·cases hd
    ·cases hd
   split at hx
   ·cases hx;intro q hq;simp at hq;rcases hq with rfl | rfl
    ·exact k0.mono (by omega)
    ·exact hbb
   ·cases hx
 ·split at hx
  ·rename_i h23;have ar:ZaY (nA L a).1=(((2:Nat):Int),true):=by rw [h23];rfl
   obtain ⟨c,rfl,k0⟩:=ZNE h ha ar (k:=0) (by omega);obtain ⟨c',e',k1⟩:=ZNE h ha ar (k:=1) (by omega);split at hx
   ·rename_i hc;have ar2:ZaY (nA L (kk (nA L a) 1)).1=(((2:Nat):Int),true):=by rw [hc.1];rfl
    obtain ⟨d,e1,j0⟩:=ZNE h k1 ar2 (k:=0) (by omega);cases hx;intro q hq;simp at hq;rcases hq with rfl | rfl
    ·exact k0.mono (by omega)
    ·exact j0.mono (by omega)
   ·cases hx
  ·cases hx
theorem ZOz (lens:List Int) {n:Zae} {b:Nat} (hk:∀ q∈n.2.2,HB L b q) (ha:∀ m:Nat,ZaY n.1=((m:Int),true)->n.2.2.length=m):HB (inM lens L n).2 (b+1) (inM lens L n).1:=by
 have pl:=ZL3 h hk ha;unfold inM;split
 ·rename_i h4;exact ZM0 h h4 (ha 2 (by rw [h4];rfl)) hk
 ·split
  ·rename_i h4 h5;have hl:n.2.2.length=2:=ha 2 (by rw [h5.1];rfl);have a0:=hk _ (ZK6 (k:=0) hl (by omega));have hb:1<=b:=by cases a0;omega
   have h1:∀ m:Nat,ZaY (1:Int)=((m:Int),true)->([]:List Int).length=m:=fun m hm=>by
    simp [ZaY] at hm;show 0=m;omega
   have c0:=ZL3 h (n:=(1,wrap .i64 (-(nA L (kk n 1)).2.1),[])) (b:=0) (fun q hq=>absurd hq (by simp)) h1;obtain ⟨c1,c2,c3,⟨es,c4⟩⟩:=ZKT h (n:=(1,wrap .i64 (-(nA L (kk n 1)).2.1),[])) (fun q hq=>absurd hq (by simp)) h1;refine ZM0 c1 (n:=(4,0,[kk n 0,(plM L (1,wrap .i64 (-(nA L (kk n 1)).2.1),[])).1])) rfl rfl (fun q hq=>?_);simp at hq;rcases hq with rfl | rfl
   ·rw [c4];exact a0.app es
   ·exact c0.mono (by omega)
  ·split
   ·rename_i h4 h5 h9;have hl:n.2.2.length=2:=ha 2 (by rw [h9];rfl);have a0:=hk _ (ZK6 (k:=0) hl (by omega));cases hx:ZLh L lens (kk n 0) (kk n 1) with
    | none=>exact pl
    | some x=>
     obtain ⟨x1,x2,x3,x4⟩:=ZKW h a0.r hx;refine ZL3 h (ZNF h a0 hx) (fun m hm=>?_);rcases x1 with e | e | e<;>rw [e] at hm<;>simp [ZaY] at hm<;>omega
   ·split
    ·rename_i h4 h5 h9 h22;have hl:n.2.2.length=3:=ha 3 (by rw [h22.1];rfl);exact (hk _ (ZK6 (k:=1) hl (by omega))).mono (by omega)
    ·exact pl
end
def ZNQ (lens:List Int) (L:List Zae) (n:Zae):Prop:=
 (n.1=4/\(nA L (kk n 0)).1=1/\((nA L (kk n 1)).1≠1\/(nA L (kk n 0)).2.1 > (nA L (kk n 1)).2.1)) \/
 (n.1=5/\(nA L (kk n 1)).1=1) \/
 (n.1=9/\∃ x,ZLh L lens (kk n 0) (kk n 1)=some x) \/
 (n.1=22/\(kk n 1=kk n 2\/(nA L (kk n 1)).1=28/\kk (nA L (kk n 1)) 0=kk n 2/\inB L lens (kk n 0) (kk (nA L (kk n 1)) 1) (nA L (kk n 1)).2.1=true))
theorem ZRd {lens:List Int} {L:List Zae} {n:Zae} (h:¬ ZNQ lens L n):inM lens L n=plM L n:=by
 unfold ZNQ at h;unfold inM;split
 ·rename_i h4;unfold ZLe;rw [if_neg (fun e=>h (.inl ⟨h4,e⟩))]
 ·split
  ·rename_i h5;exact absurd (.inr (.inl h5)) h
  ·split
   ·rename_i h9;cases hx:ZLh L lens (kk n 0) (kk n 1) with
    | none=>rfl
    | some x=>exact absurd (.inr (.inr (.inl ⟨h9,x,hx⟩))) h
   ·split
    ·rename_i h22;exact absurd (.inr (.inr (.inr h22))) h
    ·rfl
section
variable {L:List Zae} (h:PoolH L) (es:List Zae)
include h
theorem ZLH {i n:Int} (hi:inR L.length i):isC (L++es) i n=isC L i n:=by unfold isC;rw [ZKM hi]
theorem ZM1 {lens:List Int} {c i k:Int} (hc:inR L.length c):inB (L++es) lens c i k=inB L lens c i k:=by
 unfold inB;rw [ZKM hc];by_cases h19:(nA L c).1=19
 ·have ar:ZaY (nA L c).1=(((2:Nat):Int),true):=by rw [h19];rfl
  rw [ZLH h es (h.kidR hc ar (k:=1) (by omega))]
 ·have:((nA L c).1==19)=false:=by simpa using h19
  rw [this];simp
theorem ZNu {i b:Int} (hi:inR L.length i):zT (L++es) i b=zT L i b:=by
 unfold zT;rw [ZKM hi];by_cases h15:(nA L i).1=15
 ·have ar:ZaY (nA L i).1=(((2:Nat):Int),true):=by rw [h15];rfl
  rw [ZLH h es (h.kidR hi ar (k:=1) (by omega))]
 ·have:((nA L i).1==15)=false:=by simpa using h15
  rw [this];simp
theorem ZMS {d:Int} (hd:inR L.length d):ZLG (L++es) d=ZLG L d:=by
 unfold ZLG;rw [ZKM hd];by_cases h4:(nA L d).1=4
 ·have ar:ZaY (nA L d).1=(((2:Nat):Int),true):=by rw [h4];rfl
  rw [ZNu h es (h.kidR hd ar (k:=1) (by omega)),ZNu h es (h.kidR hd ar (k:=0) (by omega))]
 ·rw [if_neg h4,if_neg h4]
theorem ZMT {lens:List Int} {a m:Int} (ha:inR L.length a) (hm:inR L.length m):ZLh (L++es) lens a m=ZLh L lens a m:=by
 unfold ZLh;rw [ZKM ha,ZKM hm];by_cases h78:(nA L a).1=7\/(nA L a).1=8
 ·have ar:ZaY (nA L a).1=(((2:Nat):Int),true):=by rcases h78 with e | e<;>rw [e]<;>rfl
  rw [if_pos h78,if_pos h78,ZMS h es (h.kidR ha ar (k:=1) (by omega))];by_cases h4:(nA L m).1=4
  ·have ar2:ZaY (nA L m).1=(((2:Nat):Int),true):=by rw [h4];rfl
   rw [ZLH h es (h.kidR hm ar2 (k:=1) (by omega))]
  ·simp [h4]
 ·rw [if_neg h78,if_neg h78];by_cases h23:(nA L a).1=23
  ·have ar:ZaY (nA L a).1=(((2:Nat):Int),true):=by rw [h23];rfl
   rw [if_pos h23,if_pos h23,ZKM (h.kidR ha ar (k:=1) (by omega))];by_cases h20:(nA L m).1=20
   ·have ar2:ZaY (nA L m).1=(((1:Nat):Int),true):=by rw [h20];rfl
    rw [ZM1 h es (h.kidR hm ar2 (k:=0) (by omega))]
   ·simp [h20]
  ·rw [if_neg h23,if_neg h23]
theorem ZLO {lens:List Int} {n:Zae} (hk:∀ q∈n.2.2,inR L.length q) (ha:∀ m:Nat,ZaY n.1=((m:Int),true)->n.2.2.length=m):ZNQ lens (L++es) n↔ZNQ lens L n:=by
 have two:∀ {op:Int},n.1=op->ZaY op=(((2:Nat):Int),true)->inR L.length (kk n 0)/\inR L.length (kk n 1):=fun e ar=>by
  have hl:=ha 2 (by rw [e];exact ar);exact ⟨hk _ (ZK6 hl (by omega)),hk _ (ZK6 hl (by omega))⟩
 unfold ZNQ;refine or_congr ?_ (or_congr ?_ (or_congr ?_ ?_))
 ·refine and_congr_right fun e=>?_;obtain ⟨a0,a1⟩:=two e rfl;rw [ZKM a0,ZKM a1]
 ·refine and_congr_right fun e=>?_;obtain ⟨a0,a1⟩:=two e rfl;rw [ZKM a1]
 ·refine and_congr_right fun e=>?_;obtain ⟨a0,a1⟩:=two e rfl;rw [ZMT h es a0 a1]
 ·refine and_congr_right fun e=>?_;have hl:=ha 3 (by rw [e];rfl);have a0:=hk _ (ZK6 (k:=0) hl (by omega));have a1:=hk _ (ZK6 (k:=1) hl (by omega));rw [ZKM a1,ZM1 h es a0]
end
def ZNR (lens:List Int) (L:List Zae):Prop:=∀ x∈L,¬ ZNQ lens L x
theorem ZKZ {lens:List Int} {L:List Zae} (h:PoolH L) (hi:ZNR lens L) {n:Zae} (hk:∀ q∈n.2.2,inR L.length q) (ha:∀ m:Nat,ZaY n.1=((m:Int),true)->n.2.2.length=m) (hr:¬ ZNQ lens L n):ZNR lens (plM L n).2:=by
 show ZNR lens (ZHQ L n);unfold ZHQ;split
 ·exact hi
 ·intro x hx;rcases mem_append.1 hx with hx | hx
  ·obtain ⟨i,hxi⟩:=getElem?_of_mem hx;have hlt:=ZaA hxi;rw [ZLO h [n] (fun q hq=>by have:=h.k i x hxi q hq;exact ⟨this.1,by omega⟩) (fun m hm=>h.a x hx m hm)];exact hi x hx
  ·obtain rfl:=mem_singleton.1 hx;rw [ZLO h _ hk ha];exact hr
theorem ZLP {lens:List Int} {L:List Zae} {n:Zae} (h4:n.1=4):¬ ZNQ lens L (ZLe L n):=by
 unfold ZLe;split
 ·rename_i hc;rintro (⟨_,h1,h2⟩ | ⟨h1,_⟩ | ⟨h1,_⟩ | ⟨h1,_⟩)
  ·have e0:kk ((4,n.2.1,[kk n 1,kk n 0]):Zae) 0=kk n 1:=rfl;have e1:kk ((4,n.2.1,[kk n 1,kk n 0]):Zae) 1=kk n 0:=rfl;rw [e0] at h1 h2;rw [e1] at h2;obtain ⟨c1,c2⟩:=hc;rcases h2 with h2 | h2
   ·exact h2 c1
   ·rcases c2 with c2 | c2
    ·exact c2 h1
    ·omega
  ·cases h1
  ·cases h1
  ·cases h1
 ·rename_i hc;rintro (⟨_,h1⟩ | ⟨h1,_⟩ | ⟨h1,_⟩ | ⟨h1,_⟩)
  ·exact hc h1
  ·omega
  ·omega
  ·omega
theorem ZLk {L:List Zae} {n:Zae} (h4:n.1=4) (hl:n.2.2.length=2) (hk:∀ q∈n.2.2,inR L.length q):(∀ q∈(ZLe L n).2.2,inR L.length q)/\∀ m:Nat,ZaY (ZLe L n).1=((m:Int),true)->(ZLe L n).2.2.length=m:=by
 have a0:=hk _ (ZK6 (k:=0) hl (by omega));have a1:=hk _ (ZK6 (k:=1) hl (by omega));unfold ZLe;split
 ·refine ⟨fun q hq=>?_,fun m hm=>?_⟩
  ·simp at hq;rcases hq with rfl | rfl
   ·exact a1
   ·exact a0
  ·have:ZaY 4=((m:Int),true):=hm;simp [ZaY] at this;show 2=m;omega
 ·refine ⟨hk,fun m hm=>?_⟩;rw [h4] at hm;simp [ZaY] at hm;omega
theorem ZMU {lens:List Int} {L:List Zae} (h:PoolH L) (hi:ZNR lens L) {n:Zae} (hk:∀ q∈n.2.2,inR L.length q) (ha:∀ m:Nat,ZaY n.1=((m:Int),true)->n.2.2.length=m):ZNR lens (inM lens L n).2:=by
 unfold inM;split
 ·rename_i h4;obtain ⟨f1,f2⟩:=ZLk h4 (ha 2 (by rw [h4];rfl)) hk;exact ZKZ h hi f1 f2 (ZLP h4)
 ·split
  ·rename_i h4 h5;have hl:n.2.2.length=2:=ha 2 (by rw [h5.1];rfl);have a0:=hk _ (ZK6 (k:=0) hl (by omega));have h1:∀ m:Nat,ZaY (1:Int)=((m:Int),true)->([]:List Int).length=m:=fun m hm=>by
    simp [ZaY] at hm;show 0=m;omega
   have i1:=ZKZ h hi (n:=(1,wrap .i64 (-(nA L (kk n 1)).2.1),[])) (fun q hq=>absurd hq (by simp)) h1 (by
    rintro (⟨e,_⟩ | ⟨e,_⟩ | ⟨e,_⟩ | ⟨e,_⟩)<;>cases e)
   obtain ⟨c1,c2,c3,⟨es,c4⟩⟩:=ZKT h (n:=(1,wrap .i64 (-(nA L (kk n 1)).2.1),[])) (fun q hq=>absurd hq (by simp)) h1;obtain ⟨f1,f2⟩:=ZLk (L:=(plM L (1,wrap .i64 (-(nA L (kk n 1)).2.1),[])).2) (n:=(4,0,[kk n 0,(plM L (1,wrap .i64 (-(nA L (kk n 1)).2.1),[])).1])) rfl rfl (fun q hq=>by
    simp at hq;rcases hq with rfl | rfl
    ·exact ⟨a0.1,by rw [c4,length_append];have:=a0.2;omega⟩
    ·exact c2)
   exact ZKZ c1 i1 f1 f2 (ZLP rfl)
  ·split
   ·rename_i h4 h5 h9;have hl:n.2.2.length=2:=ha 2 (by rw [h9];rfl);have a0:=hk _ (ZK6 (k:=0) hl (by omega));cases hx:ZLh L lens (kk n 0) (kk n 1) with
    | none=>
     refine ZKZ h hi hk ha ?_;rintro (⟨e,_⟩ | ⟨e,_⟩ | ⟨_,x,e⟩ | ⟨e,_⟩)
     ·omega
     ·omega
     ·rw [hx] at e;cases e
     ·omega
    | some x=>
     obtain ⟨x1,x2,x3,x4⟩:=ZKW h a0 hx;refine ZKZ h hi (fun q hq=>(x4 q hq).1) (fun m hm=>?_) ?_
     ·rcases x1 with e | e | e<;>rw [e] at hm<;>simp [ZaY] at hm<;>omega
     ·rintro (⟨e,_⟩ | ⟨e,_⟩ | ⟨e,_⟩ | ⟨e,_⟩)<;>omega
   ·split
    ·exact hi
    ·rename_i h4 h5 h9 h22;refine ZKZ h hi hk ha ?_;rintro (⟨e,_⟩ | e | ⟨e,_⟩ | e)
     ·exact h4 e
     ·exact h5 e
     ·exact h9 e
     ·exact h22 e
mutual
inductive Z2p (L:List Zae):Int->List Int->List Zae->List Int->List Zae->Prop
 | old {i num out}:0<=atI num i->Z2p L i num out num out
 | new {i num out num' out' ks}:atI num i < 0->ZKG L (nA L i).2.2 num out ks num' out'->Z2p L i num out (Zaq num' i (out'.length:Int)) (out'++[((nA L i).1,(nA L i).2.1,ks)])
inductive ZKG (L:List Zae):List Int->List Int->List Zae->List Int->List Int->List Zae->Prop
 | nil {num out}:ZKG L [] num out [] num out
 | cons {q qs num out num1 out1 ks num2 out2}:Z2p L q num out num1 out1->ZKG L qs num1 out1 ks num2 out2->ZKG L (q::qs) num out (atI num1 q::ks) num2 out2
end
mutual
theorem Z2p.det {L:List Zae} {i:Int} {num:List Int} {out:List Zae} {n1 n2:List Int} {o1 o2:List Zae}:Z2p L i num out n1 o1->Z2p L i num out n2 o2->n1=n2/\o1=o2
 | .old h,h'=>by
  cases h' with
  | old _=>exact ⟨rfl,rfl⟩
  | new g _=>omega
 | .new h k,h'=>by
  cases h' with
  | old g=>omega
  | new _ k'=>obtain ⟨rfl,rfl,rfl⟩:=k.det k';exact ⟨rfl,rfl⟩
theorem ZKG.det {L:List Zae} {qs:List Int} {num:List Int} {out:List Zae} {k1 k2 n1 n2:List Int} {o1 o2:List Zae}:ZKG L qs num out k1 n1 o1->ZKG L qs num out k2 n2 o2->k1=k2/\n1=n2/\o1=o2
 | .nil,h'=>by cases h';exact ⟨rfl,rfl,rfl⟩
 | .cons h k,h'=>by
  cases h' with
  | cons g k'=>obtain ⟨rfl,rfl⟩:=h.det g;obtain ⟨rfl,rfl,rfl⟩:=k.det k';exact ⟨rfl,rfl,rfl⟩
end
theorem ZKG.snoc {L:List Zae} {q:Int} {n1:List Int} {o1:List Zae} {n2:List Int} {o2:List Zae} (hq:Z2p L q n1 o1 n2 o2):∀ {qs:List Int} {num:List Int} {out:List Zae} {ks:List Int},ZKG L qs num out ks n1 o1->ZKG L (qs++[q]) num out (ks++[atI n2 q]) n2 o2
 | [],_,_,_,h=>by cases h;exact .cons hq .nil
 | x::qs,_,_,_,h=>by
  cases h with
  | cons h1 h2=>exact .cons h1 (h2.snoc hq)
theorem ZKL (l:List Int) {i:Int} (hi:inR l.length i) (x j:Int) (hj:0<=j):atI (Zaq l i x) j=if j=i then x else atI l j:=by
 have h1:=hi.1;have h2:=hi.2
 unfold atI Zaq;rw [List.getElem?_set];by_cases e:j=i
 ·subst e;rw [if_pos rfl,if_pos rfl,if_pos (by omega)];rfl
 ·rw [if_neg (by omega),if_neg e]
structure Kp (L:List Zae) (top:Int) (num:List Int) (out:List Zae) (num':List Int) (out':List Zae):Prop where
 len:num'.length=L.length
 above:∀ j,top < j->atI num' j=atI num j
 old:∀ j,0<=j->0<=atI num j->atI num' j=atI num j
 ex:∃ es,out'=out++es
theorem Kp.trans {L:List Zae} {t s u:Int} {n1 n2 n3:List Int} {o1 o2 o3:List Zae} (h:Kp L t n1 o1 n2 o2) (i:Kp L s n2 o2 n3 o3) (ht:t<=u) (hs:s<=u):Kp L u n1 o1 n3 o3:=by
 obtain ⟨es,e1⟩:=h.ex;obtain ⟨fs,e2⟩:=i.ex;exact ⟨i.len,fun j hj=>by rw [i.above j (by omega),h.above j (by omega)],fun j h0 hj=>by rw [i.old j h0 (by rw [h.old j h0 hj];exact hj),h.old j h0 hj],es++fs,by rw [e2,e1,append_assoc]⟩
mutual
theorem Z2p.kp {L:List Zae} (hL:PoolH L):∀ {i:Int} {num:List Int} {out:List Zae} {num':List Int} {out':List Zae},Z2p L i num out num' out'->inR L.length i->num.length=L.length->Kp L i num out num' out'/\0<=atI num' i
 | i,num,out,_,_,.old h,hi,hn=>⟨⟨hn,fun _ _=>rfl,fun _ _ _=>rfl,[],by simp⟩,h⟩
 | i,num,out,_,_,.new (num':=num') (out':=out') (ks:=ks) h k,hi,hn=>by
  have hk:∀ q∈(nA L i).2.2,inR L.length q/\q < i:=fun q hq=>by
   have:=hL.k _ _ (ZKS hi) q hq;have h1:=hi.1;have h2:=hi.2
   exact ⟨⟨this.1,by omega⟩,by omega⟩
  have kp:=ZKG.kp hL (i - 1) k (fun q hq=>⟨(hk q hq).1,by have:=(hk q hq).2;omega⟩) hn;have hi':inR num'.length i:=by rw [kp.len];exact hi
  obtain ⟨es,e⟩:=kp.ex;refine ⟨⟨by rw [Zay,kp.len],fun j hj=>?_,fun j h0 hj=>?_,es++[((nA L i).1,(nA L i).2.1,ks)],by rw [e,append_assoc]⟩,?_⟩
  ·have:=hi.1;rw [ZKL _ hi' _ _ (by omega),if_neg (by omega),kp.above j (by omega)]
  ·rw [ZKL _ hi' _ _ h0,if_neg (fun e=>by subst e;omega),kp.old j h0 hj]
  ·rw [ZKL _ hi' _ _ hi.1,if_pos rfl];omega
theorem ZKG.kp {L:List Zae} (hL:PoolH L) (t:Int):∀ {qs:List Int} {num:List Int} {out:List Zae} {ks:List Int} {num':List Int} {out':List Zae},ZKG L qs num out ks num' out'->(∀ q∈qs,inR L.length q/\q<=t)->num.length=L.length->Kp L t num out num' out'
 | _,num,out,_,_,_,.nil,_,hn=>⟨hn,fun _ _=>rfl,fun _ _ _=>rfl,[],by simp⟩
 | _,num,out,_,_,_,.cons (q:=q) (qs:=qs) h k,hq,hn=>by
  have h1:=(Z2p.kp hL h (hq q (by simp)).1 hn).1;have h2:=ZKG.kp hL t k (fun x hx=>hq x (by simp [hx])) h1.len;exact h1.trans h2 (hq q (by simp)).2 (Int.le_refl _)
end
structure ZLr (L:List Zae) (num:List Int) (out:List Zae):Prop where
 len:num.length=L.length
 at_:∀ j,inR L.length j->0<=atI num j->atI num j < out.length/\out[(atI num j).toNat]?=some ((nA L j).1,(nA L j).2.1,(nA L j).2.2.map (atI num))/\∀ q∈(nA L j).2.2,0<=atI num q/\atI num q < atI num j
 inj:∀ j j',inR L.length j->inR L.length j'->0<=atI num j->atI num j=atI num j'->j=j'
mutual
theorem Z2p.ok {L:List Zae} (hL:PoolH L):∀ {i:Int} {num:List Int} {out:List Zae} {num':List Int} {out':List Zae},Z2p L i num out num' out'->inR L.length i->ZLr L num out->ZLr L num' out'
 | i,num,out,_,_,.old h,hi,hn=>hn
 | i,num,out,_,_,.new (num':=num') (out':=out') (ks:=ks) h k,hi,hn=>by
  have hk:∀ q∈(nA L i).2.2,inR L.length q/\q<=i - 1:=fun q hq=>by
   have:=hL.k _ _ (ZKS hi) q hq;have h1:=hi.1;have h2:=hi.2
   exact ⟨⟨this.1,by omega⟩,by omega⟩
  have kp:=ZKG.kp hL (i - 1) k hk hn.len;obtain ⟨ok,eks,hpos⟩:=ZKG.ok hL k (fun q hq=>(hk q hq).1) hn;have hi':inR num'.length i:=by rw [kp.len];exact hi
  have hneg:atI num' i < 0:=by rw [kp.above i (by omega)];exact h
  have A:∀ j,0<=j->atI (Zaq num' i (out'.length:Int)) j=if j=i then (out'.length:Int) else atI num' j:=fun j hj=>ZKL _ hi' _ _ hj
  have B:∀ j,inR L.length j->0<=atI num' j->j≠i:=fun j _ h e=>by subst e;omega
  have mapE:∀ l:List Int,(∀ q∈l,inR L.length q/\0<=atI num' q)->l.map (atI (Zaq num' i (out'.length:Int)))=l.map (atI num'):=fun l hl=>List.map_congr_left fun q hq=>by
   obtain ⟨a,b⟩:=hl q hq;rw [A q a.1,if_neg (B q a b)]
  have kidsR:∀ j,inR L.length j->∀ q∈(nA L j).2.2,inR L.length q:=fun j hj q hq=>by
   have:=hL.k _ _ (ZKS hj) q hq;have h1:=hj.1;have h2:=hj.2
   exact ⟨this.1,by omega⟩
  refine ⟨by rw [Zay,kp.len],fun j hj h0=>?_,fun j j' hj hj' h0 e=>?_⟩
  ·by_cases e:j=i
   ·subst e;rw [A j hj.1,if_pos rfl];refine ⟨by simp;omega,?_,fun q hq=>?_⟩
    ·rw [Int.toNat_natCast,List.getElem?_append_right (le_refl _)];simp only [Nat.sub_self,List.getElem?_cons_zero];rw [mapE _ fun q hq=>⟨(hk q hq).1,hpos q hq⟩,eks]
    ·have hq1:=(hk q hq).1;have hq2:=hpos q hq;rw [A q hq1.1,if_neg (B q hq1 hq2)];exact ⟨hq2,(ok.at_ q hq1 hq2).1⟩
   ·rw [A j hj.1,if_neg e] at h0 |-
    obtain ⟨a1,a2,a3⟩:=ok.at_ j hj h0;refine ⟨by simp;omega,?_,fun q hq=>?_⟩
    ·rw [List.getElem?_append_left (by omega),a2,mapE _ fun q hq=>⟨kidsR j hj q hq,(a3 q hq).1⟩]
    ·have hq1:=kidsR j hj q hq;rw [A q hq1.1,if_neg (B q hq1 (a3 q hq).1)];exact a3 q hq
  ·rw [A j hj.1] at h0 e;rw [A j' hj'.1] at e;by_cases e1:j=i<;>by_cases e2:j'=i
   ·omega
   ·rw [if_pos e1,if_neg e2] at e;rw [if_pos e1] at h0;have:=(ok.at_ j' hj' (by omega)).1;omega
   ·rw [if_neg e1,if_pos e2] at e;rw [if_neg e1] at h0;have:=(ok.at_ j hj h0).1;omega
   ·rw [if_neg e1,if_neg e2] at e;rw [if_neg e1] at h0;exact ok.inj j j' hj hj' h0 e
theorem ZKG.ok {L:List Zae} (hL:PoolH L):∀ {qs:List Int} {num:List Int} {out:List Zae} {ks:List Int} {num':List Int} {out':List Zae},ZKG L qs num out ks num' out'->(∀ q∈qs,inR L.length q)->ZLr L num out->ZLr L num' out'/\ks=qs.map (atI num')/\∀ q∈qs,0<=atI num' q
 | _,num,out,_,_,_,.nil,_,hn=>⟨hn,rfl,fun q h=>absurd h (by simp)⟩
 | _,num,out,_,_,_,.cons (q:=q) (qs:=qs) (num1:=num1) (num2:=num2) h k,hq,hn=>by
  have q0:=hq q (by simp);have ok1:=Z2p.ok hL h q0 hn;have kp1:=Z2p.kp hL h q0 hn.len;obtain ⟨ok2,e2,p2⟩:=ZKG.ok hL k (fun x hx=>hq x (by simp [hx])) ok1;have kp2:=ZKG.kp hL (L.length:Int) k (fun x hx=>⟨hq x (by simp [hx]),by have:=(hq x (by simp [hx])).2;omega⟩) ok1.len;have e:=kp2.old q q0.1 kp1.2;refine ⟨ok2,by rw [map_cons,<-e2,e],fun x hx=>?_⟩;rcases mem_cons.1 hx with rfl | hx
  ·rw [e];exact kp1.2
  ·exact p2 x hx
end
def Sub (num numF:List Int):Prop:=∀ j,0<=j->0<=atI num j->atI numF j=atI num j
structure RnR (L:List Zae) (numF:List Int) (outF:List Zae) (num num2:List Int):Prop where
 len:num2.length=outF.length
 at_:∀ j,inR L.length j->0<=atI numF j->atI num2 (atI numF j)=atI num j
section
variable {L:List Zae} (hL:PoolH L) {numF:List Int} {outF:List Zae} (hF:ZLr L numF outF)
include hL hF
mutual
theorem Z2p.sim:∀ {i:Int} {num:List Int} {out:List Zae} {num':List Int} {out':List Zae} {num2:List Int},Z2p L i num out num' out'->inR L.length i->num.length=L.length->Sub num' numF->RnR L numF outF num num2->∃ num2',Z2p outF (atI numF i) num2 out num2' out'/\RnR L numF outF num' num2'
 | i,num,out,_,_,num2,.old h,hi,hn,hs,hr=>by
  have e:=hs i hi.1 h;exact ⟨num2,.old (by rw [hr.at_ i hi (by omega)];exact h),hr⟩
 | i,num,out,_,_,num2,.new (num':=num') (out':=out') (ks:=ks) h k,hi,hn,hs,hr=>by
  have hv:Z2p L i num out _ _:=.new h k;obtain ⟨kp,hp⟩:=Z2p.kp hL hv hi hn;have hρ:0<=atI numF i:=by rw [hs i hi.1 hp];exact hp
  obtain ⟨f1,f2,f3⟩:=hF.at_ i hi hρ;have hk:∀ q∈(nA L i).2.2,inR L.length q/\q<=i - 1:=fun q hq=>by
   have:=hL.k _ _ (ZKS hi) q hq;have h1:=hi.1;have h2:=hi.2
   exact ⟨⟨this.1,by omega⟩,by omega⟩
  have kpk:=ZKG.kp hL (i - 1) k hk hn;have hi':inR num'.length i:=by rw [kpk.len];exact hi
  have hs':Sub num' numF:=fun j hj h0=>by
   have hne:j≠i:=fun e=>by subst e;rw [kpk.above j (by omega)] at h0;omega
   have e:=ZKL num' hi' (out'.length:Int) j hj;rw [if_neg hne] at e;rw [<-e];exact hs j hj (by rw [e];exact h0)
  obtain ⟨num2',v2,r2⟩:=ZKG.sim k (fun q hq=>(hk q hq).1) hn hs' hr;have en:nA outF (atI numF i)=((nA L i).1,(nA L i).2.1,(nA L i).2.2.map (atI numF)):=by unfold nA;rw [f2];rfl
  have hv2:Z2p outF (atI numF i) num2 out _ _:=.new (by rw [hr.at_ i hi hρ];exact h) (by rw [en];exact v2);rw [en] at hv2;refine ⟨_,hv2,by rw [Zay,r2.len],fun j hj h0=>?_⟩;have hri:inR num2'.length (atI numF i):=by rw [r2.len];exact ⟨hρ,f1⟩
  rw [ZKL _ hri _ _ h0,ZKL _ hi' _ _ hj.1];by_cases e:j=i
  ·subst e;rw [if_pos rfl,if_pos rfl]
  ·rw [if_neg e,if_neg (fun e2=>e (hF.inj j i hj hi h0 e2))];exact r2.at_ j hj h0
theorem ZKG.sim:∀ {qs:List Int} {num:List Int} {out:List Zae} {ks:List Int} {num':List Int} {out':List Zae} {num2:List Int},ZKG L qs num out ks num' out'->(∀ q∈qs,inR L.length q)->num.length=L.length->Sub num' numF->RnR L numF outF num num2->∃ num2',ZKG outF (qs.map (atI numF)) num2 out ks num2' out'/\RnR L numF outF num' num2'
 | _,num,out,_,_,_,num2,.nil,_,hn,hs,hr=>⟨num2,.nil,hr⟩
 | _,num,out,_,_,_,num2,.cons (q:=q) (qs:=qs) (num1:=num1) h k,hq,hn,hs,hr=>by
  have q0:=hq q (by simp);obtain ⟨kp1,p1⟩:=Z2p.kp hL h q0 hn;have kp2:=ZKG.kp hL (L.length:Int) k (fun x hx=>⟨hq x (by simp [hx]),by have:=(hq x (by simp [hx])).2;omega⟩) kp1.len;have hs1:Sub num1 numF:=fun j hj h0=>by
   have e:=kp2.old j hj h0;rw [<-e];exact hs j hj (by rw [e];exact h0)
  obtain ⟨n1,v1,r1⟩:=Z2p.sim h q0 hn hs1 hr;obtain ⟨n2,v2,r2⟩:=ZKG.sim k (fun x hx=>hq x (by simp [hx])) kp1.len hs r1;refine ⟨n2,?_,r2⟩;have e:atI n1 (atI numF q)=atI num1 q:=r1.at_ q q0 (by rw [hs1 q q0.1 p1];exact p1);rw [map_cons,<-e];exact .cons v1 v2
end
end
section
variable {L:List Zae} (hL:PoolH L) {numF:List Int} {outF:List Zae} (hF:ZLr L numF outF)
include hL hF
theorem ZQG {i:Int} (hi:inR L.length i) (h0:0<=atI numF i):nA outF (atI numF i)=((nA L i).1,(nA L i).2.1,(nA L i).2.2.map (atI numF)):=by
 obtain ⟨f1,f2,f3⟩:=hF.at_ i hi h0;unfold nA;rw [f2];rfl
theorem ZRg {x:Zae} {m k:Nat} (hl:x.2.2.length=m) (hk:k < m):kk (x.1,x.2.1,x.2.2.map (atI numF)) k=atI numF (kk x k):=by
 unfold kk;simp only [getElem?_map];rw [getElem?_eq_getElem (by omega)];rfl
theorem ZQ9 {i:Int} (hi:inR L.length i) (h0:0<=atI numF i) {m k:Nat} (ha:ZaY (nA L i).1=((m:Int),true)) (hk:k < m):inR L.length (kk (nA L i) k)/\0<=atI numF (kk (nA L i) k)/\kk (nA outF (atI numF i)) k=atI numF (kk (nA L i) k):=by
 have hl:=hL.a _ (ZKF hi) m ha;refine ⟨hL.kidR hi ha hk,((hF.at_ i hi h0).2.2 _ (ZK6 hl hk)).1,?_⟩;rw [ZQG hL hF hi h0];exact ZRg hL hF hl hk
theorem ZQB {i:Int} (hi:inR L.length i) (h0:0<=atI numF i):(nA outF (atI numF i)).1=(nA L i).1/\(nA outF (atI numF i)).2.1=(nA L i).2.1:=by
 rw [ZQG hL hF hi h0];exact ⟨rfl,rfl⟩
theorem ZQH {i j:Int} (hi:inR L.length i) (hj:inR L.length j) (h0:0<=atI numF i):atI numF i=atI numF j↔i=j:=⟨hF.inj i j hi hj h0,fun e=>by rw [e]⟩
theorem ZQM {i n:Int} (hi:inR L.length i) (h0:0<=atI numF i):isC outF (atI numF i) n=isC L i n:=by
 obtain ⟨a,b⟩:=ZQB hL hF hi h0;unfold isC;rw [a,b]
theorem ZRc {i b:Int} (hi:inR L.length i) (h0:0<=atI numF i) (hb:inR L.length b):zT outF (atI numF i) (atI numF b)=zT L i b:=by
 obtain ⟨a,_⟩:=ZQB hL hF hi h0;unfold zT;rw [a];by_cases h15:(nA L i).1=15
 ·have ar:ZaY (nA L i).1=(((2:Nat):Int),true):=by rw [h15];rfl
  obtain ⟨p1,p2,p3⟩:=ZQ9 hL hF hi h0 ar (k:=0) (by omega);obtain ⟨q1,q2,q3⟩:=ZQ9 hL hF hi h0 ar (k:=1) (by omega);rw [p3,q3,ZQM hL hF q1 q2];congr 2;rw [Bool.eq_iff_iff,beq_iff_eq,beq_iff_eq];exact ZQH hL hF p1 hb p2
 ·have:((nA L i).1==15)=false:=by simpa using h15
  rw [this];simp
theorem ZQT {lens:List Int} {c i k:Int} (hc:inR L.length c) (h0:0<=atI numF c) (hi:inR L.length i):inB outF lens (atI numF c) (atI numF i) k=inB L lens c i k:=by
 obtain ⟨a,_⟩:=ZQB hL hF hc h0;unfold inB;rw [a];by_cases h19:(nA L c).1=19
 ·have ar:ZaY (nA L c).1=(((2:Nat):Int),true):=by rw [h19];rfl
  obtain ⟨p1,p2,p3⟩:=ZQ9 hL hF hc h0 ar (k:=0) (by omega);obtain ⟨q1,q2,q3⟩:=ZQ9 hL hF hc h0 ar (k:=1) (by omega);rw [p3,q3,ZQM hL hF q1 q2];congr 2;rw [Bool.eq_iff_iff,beq_iff_eq,beq_iff_eq];exact ZQH hL hF p1 hi p2
 ·have:((nA L c).1==19)=false:=by simpa using h19
  rw [this];simp
theorem ZRa {d:Int} (hd:inR L.length d) (h0:0<=atI numF d):ZLG outF (atI numF d)=(ZLG L d).map fun p=>(atI numF p.1,atI numF p.2):=by
 obtain ⟨a,_⟩:=ZQB hL hF hd h0;unfold ZLG;rw [a];by_cases h4:(nA L d).1=4
 ·have ar:ZaY (nA L d).1=(((2:Nat):Int),true):=by rw [h4];rfl
  obtain ⟨p1,p2,p3⟩:=ZQ9 hL hF hd h0 ar (k:=0) (by omega);obtain ⟨q1,q2,q3⟩:=ZQ9 hL hF hd h0 ar (k:=1) (by omega);rw [if_pos h4,if_pos h4,p3,q3,ZRc hL hF q1 q2 p1,ZRc hL hF p1 p2 q1];split
  ·rfl
  ·split<;>rfl
 ·rw [if_neg h4,if_neg h4];rfl
theorem ZRb {lens:List Int} {a m:Int} (ha:inR L.length a) (a0:0<=atI numF a) (hm:inR L.length m) (m0:0<=atI numF m) (h:∃ x,ZLh outF lens (atI numF a) (atI numF m)=some x):∃ x,ZLh L lens a m=some x:=by
 obtain ⟨x,h⟩:=h;obtain ⟨oa,ia⟩:=ZQB hL hF ha a0;obtain ⟨om,im⟩:=ZQB hL hF hm m0;unfold ZLh at h |-
 rw [oa] at h;by_cases h78:(nA L a).1=7\/(nA L a).1=8
 ·have ar:ZaY (nA L a).1=(((2:Nat):Int),true):=by rcases h78 with e | e<;>rw [e]<;>rfl
  obtain ⟨q1,q2,q3⟩:=ZQ9 hL hF ha a0 ar (k:=1) (by omega);rw [if_pos h78,q3,ZRa hL hF q1 q2] at h;rw [if_pos h78];cases hd:ZLG L (kk (nA L a) 1) with
  | none=>rw [hd] at h;cases h
  | some be=>
   obtain ⟨b,e⟩:=be;rw [hd] at h;dsimp only [Option.map] at h;dsimp only;split at h
   ·rename_i hc;obtain ⟨c1,c2,c3⟩:=hc;rw [om] at c1;have ar2:ZaY (nA L m).1=(((2:Nat):Int),true):=by rw [c1];rfl
    obtain ⟨r1,r2,r3⟩:=ZQ9 hL hF hm m0 ar2 (k:=0) (by omega);obtain ⟨s1,s2,s3⟩:=ZQ9 hL hF hm m0 ar2 (k:=1) (by omega);obtain ⟨_,he,_,_⟩:=ZND hL q1 hd;rw [r3,ZQH hL hF r1 he r2] at c2;rw [s3,ZQM hL hF s1 s2] at c3;rw [if_pos ⟨c1,c2,c3⟩];exact ⟨_,rfl⟩
   ·cases h
 ·rw [if_neg h78] at h |-
  by_cases h23:(nA L a).1=23
  ·have ar:ZaY (nA L a).1=(((2:Nat):Int),true):=by rw [h23];rfl
   obtain ⟨q1,q2,q3⟩:=ZQ9 hL hF ha a0 ar (k:=1) (by omega);rw [if_pos h23,q3,ia] at h;rw [if_pos h23];split at h
   ·rename_i hc;obtain ⟨c1,c2,c3,c4⟩:=hc;obtain ⟨od,_⟩:=ZQB hL hF q1 q2;rw [od] at c1;have ar2:ZaY (nA L (kk (nA L a) 1)).1=(((2:Nat):Int),true):=by rw [c1];rfl
    obtain ⟨r1,r2,r3⟩:=ZQ9 hL hF q1 q2 ar2 (k:=0) (by omega);obtain ⟨s1,s2,s3⟩:=ZQ9 hL hF q1 q2 ar2 (k:=1) (by omega);rw [s3,ZQH hL hF s1 hm s2] at c2;rw [om] at c3;have ar3:ZaY (nA L m).1=(((1:Nat):Int),true):=by rw [c3];rfl
    obtain ⟨t1,t2,t3⟩:=ZQ9 hL hF hm m0 ar3 (k:=0) (by omega);rw [t3,r3,ZQT hL hF t1 t2 r1] at c4;rw [if_pos ⟨c1,c2,c3,c4⟩];exact ⟨_,rfl⟩
   ·cases h
  ·rw [if_neg h23] at h;cases h
theorem ZRe {lens:List Int} {i:Int} (hi:inR L.length i) (h0:0<=atI numF i) (h:ZNQ lens outF (nA outF (atI numF i))):ZNQ lens L (nA L i):=by
 obtain ⟨oi,_⟩:=ZQB hL hF hi h0;unfold ZNQ at h |-
 rw [oi] at h;rcases h with ⟨e,c1,c2⟩ | ⟨e,c1⟩ | ⟨e,c1⟩ | ⟨e,c1⟩
 ·have ar:ZaY (nA L i).1=(((2:Nat):Int),true):=by rw [e];rfl
  obtain ⟨r1,r2,r3⟩:=ZQ9 hL hF hi h0 ar (k:=0) (by omega);obtain ⟨s1,s2,s3⟩:=ZQ9 hL hF hi h0 ar (k:=1) (by omega);obtain ⟨a1,a2⟩:=ZQB hL hF r1 r2;obtain ⟨b1,b2⟩:=ZQB hL hF s1 s2;rw [r3,a1] at c1;rw [r3,s3,a2,b1,b2] at c2;exact .inl ⟨e,c1,c2⟩
 ·have ar:ZaY (nA L i).1=(((2:Nat):Int),true):=by rw [e];rfl
  obtain ⟨s1,s2,s3⟩:=ZQ9 hL hF hi h0 ar (k:=1) (by omega);obtain ⟨b1,b2⟩:=ZQB hL hF s1 s2;rw [s3,b1] at c1;exact .inr (.inl ⟨e,c1⟩)
 ·have ar:ZaY (nA L i).1=(((2:Nat):Int),true):=by rw [e];rfl
  obtain ⟨r1,r2,r3⟩:=ZQ9 hL hF hi h0 ar (k:=0) (by omega);obtain ⟨s1,s2,s3⟩:=ZQ9 hL hF hi h0 ar (k:=1) (by omega);rw [r3,s3] at c1;exact .inr (.inr (.inl ⟨e,ZRb hL hF r1 r2 s1 s2 c1⟩))
 ·have ar:ZaY (nA L i).1=(((3:Nat):Int),true):=by rw [e];rfl
  obtain ⟨r1,r2,r3⟩:=ZQ9 hL hF hi h0 ar (k:=0) (by omega);obtain ⟨s1,s2,s3⟩:=ZQ9 hL hF hi h0 ar (k:=1) (by omega);obtain ⟨t1,t2,t3⟩:=ZQ9 hL hF hi h0 ar (k:=2) (by omega);obtain ⟨b1,b2⟩:=ZQB hL hF s1 s2;rw [r3,s3,t3,b1,b2] at c1;refine .inr (.inr (.inr ⟨e,?_⟩));rcases c1 with c1 | ⟨c1,c2,c3⟩
  ·exact .inl ((ZQH hL hF s1 t1 s2).1 c1)
  ·have ar2:ZaY (nA L (kk (nA L i) 1)).1=(((3:Nat):Int),true):=by rw [c1];rfl
   obtain ⟨u1,u2,u3⟩:=ZQ9 hL hF s1 s2 ar2 (k:=0) (by omega);obtain ⟨v1,v2,v3⟩:=ZQ9 hL hF s1 s2 ar2 (k:=1) (by omega);rw [u3,ZQH hL hF u1 t1 u2] at c2;rw [v3,ZQT hL hF r1 r2 v1] at c3;exact .inr ⟨c1,c2,c3⟩
end
def ZLQ (lens:List Int) (s:List Int×List Zae) (n:Zae):List Int×List Zae:=
 (s.1++[(inM lens s.2 (n.1,n.2.1,n.2.2.map (atI s.1))).1],(inM lens s.2 (n.1,n.2.1,n.2.2.map (atI s.1))).2)
def ZK7 (lens:List Int) (l:List Zae):List Int×List Zae:=l.foldl (ZLQ lens) ([],[])
theorem PoolH.take {L:List Zae} (h:PoolH L) (m:Nat):PoolH (L.take m):=by
 refine ⟨fun i x hx=>?_,fun x hx=>h.a x (mem_of_mem_take hx)⟩;rw [List.getElem?_take] at hx;split at hx
 ·exact h.k i x hx
 ·cases hx
def ZQF (m:Nat):List Int:=(List.range m).map fun (i:Nat)=>(i:Int)
theorem ZQD {m:Nat} {q:Int} (h:0<=q/\q < m):atI (ZQF m) q=q:=by
 unfold atI ZQF;rw [getElem?_map,List.getElem?_range (by omega)];show ((q.toNat:Nat):Int)=q;omega
theorem ZQE (lens:List Int) {out:List Zae} (hP:PoolH out) (hI:ZNR lens out) (hD:out.Nodup):∀ m≤out.length,ZK7 lens (out.take m)=(ZQF m,out.take m)
 | 0,_=>by simp [ZK7,ZQF]
 | m+1,hm=>by
  have ih:=ZQE lens hP hI hD m (by omega);have hx:out[m]?=some out[m]:=getElem?_eq_getElem (by omega);have hmem:out[m]∈out:=getElem_mem _;have e:out.take (m+1)=out.take m++[out[m]]:=by rw [take_add_one,hx];rfl
  have lt:(out.take m).length=m:=by rw [length_take];omega
  unfold ZK7 at ih |-
  rw [e,List.foldl_append,ih];show ZLQ lens (ZQF m,out.take m) out[m]=_;have hk:=hP.k m _ hx;have mapE:(out[m]).2.2.map (atI (ZQF m))=(out[m]).2.2:=by
   have:(out[m]).2.2.map (atI (ZQF m))=(out[m]).2.2.map id:=List.map_congr_left fun q hq=>ZQD (hk q hq);rw [this,List.map_id]
  have en:((out[m]).1,(out[m]).2.1,(out[m]).2.2)=out[m]:=rfl;have nred:¬ ZNQ lens (out.take m) out[m]:=by
   have:=ZLO (lens:=lens) (hP.take m) (out.drop m) (n:=out[m]) (fun q hq=>by have:=hk q hq;exact ⟨this.1,by rw [lt];exact this.2⟩) (fun k hkk=>hP.a _ hmem k hkk);rw [List.take_append_drop] at this;rw [<-this];exact hI _ hmem
  have nmem:out[m]∉out.take m:=fun hin=>by
   obtain ⟨i,hi⟩:=getElem?_of_mem hin;have il:=ZaA hi;rw [lt] at il;rw [List.getElem?_take,if_pos il] at hi;have:=(List.getElem?_inj (ZaA hi) hD).1 (hi.trans hx.symm);omega
  unfold ZLQ;dsimp only;rw [mapE,en,ZRd nred];unfold plM ZH4 ZHQ;rw [if_neg nmem,if_neg nmem,lt];unfold ZQF;rw [List.range_succ,map_append];rfl
def ZOM (L:List Zae) (num:List Int) (out:List Zae):Prop:=∀ k:Nat,k < out.length->∃ j,inR L.length j/\atI num j=k
mutual
theorem Z2p.sur {L:List Zae} (hL:PoolH L):∀ {i:Int} {num:List Int} {out:List Zae} {num':List Int} {out':List Zae},Z2p L i num out num' out'->inR L.length i->num.length=L.length->ZOM L num out->ZOM L num' out'
 | i,num,out,_,_,.old h,hi,hn,hs=>hs
 | i,num,out,_,_,.new (num':=num') (out':=out') (ks:=ks) h k,hi,hn,hs=>by
  have hk:∀ q∈(nA L i).2.2,inR L.length q/\q<=i - 1:=fun q hq=>by
   have:=hL.k _ _ (ZKS hi) q hq;have h1:=hi.1;have h2:=hi.2
   exact ⟨⟨this.1,by omega⟩,by omega⟩
  have kp:=ZKG.kp hL (i - 1) k hk hn;have su:=ZKG.sur hL k (fun q hq=>(hk q hq).1) hn hs;have hi':inR num'.length i:=by rw [kp.len];exact hi
  have hneg:atI num' i < 0:=by rw [kp.above i (by omega)];exact h
  intro m hm;by_cases e:m < out'.length
  ·obtain ⟨j,j1,j2⟩:=su m e;refine ⟨j,j1,?_⟩;rw [ZKL _ hi' _ _ j1.1,if_neg (fun e=>by subst e;omega)];exact j2
  ·refine ⟨i,hi,?_⟩;rw [ZKL _ hi' _ _ hi.1,if_pos rfl];simp at hm;omega
theorem ZKG.sur {L:List Zae} (hL:PoolH L):∀ {qs:List Int} {num:List Int} {out:List Zae} {ks:List Int} {num':List Int} {out':List Zae},ZKG L qs num out ks num' out'->(∀ q∈qs,inR L.length q)->num.length=L.length->ZOM L num out->ZOM L num' out'
 | _,num,out,_,_,_,.nil,_,hn,hs=>hs
 | _,num,out,_,_,_,.cons (q:=q) (qs:=qs) (num1:=num1) h k,hq,hn,hs=>by
  have q0:=hq q (by simp);have kp1:=(Z2p.kp hL h q0 hn).1;exact ZKG.sur hL k (fun x hx=>hq x (by simp [hx])) kp1.len (Z2p.sur hL h q0 hn hs)
end
structure ZNv (L:List Zae) (v s:Int) (out:List Zae) (v' s':Int):Prop where
 ex:∃ num1 out1 num2,Z2p L v (replicate L.length (-1)) [] num1 out1/\Z2p L s num1 out1 num2 out/\v'=atI num2 v/\s'=atI num2 s
theorem ZNv.det {L:List Zae} {v s:Int} {o1 o2:List Zae} {v1 s1 v2 s2:Int} (h:ZNv L v s o1 v1 s1) (h':ZNv L v s o2 v2 s2):o1=o2/\v1=v2/\s1=s2:=by
 obtain ⟨⟨n1,p1,m1,a1,b1,c1,d1⟩⟩:=h;obtain ⟨⟨n2,p2,m2,a2,b2,c2,d2⟩⟩:=h';obtain ⟨rfl,rfl⟩:=a1.det a2;obtain ⟨rfl,rfl⟩:=b1.det b2;exact ⟨rfl,c1.trans c2.symm,d1.trans d2.symm⟩
theorem Zgl {n:Nat} {q:Int} (h:inR n q):atI (replicate n (-1)) q=-1:=by
 have h1:=h.1;have h2:=h.2
 unfold atI;rw [List.getElem?_replicate,if_pos (by omega)];rfl
theorem ZLr.init (L:List Zae):ZLr L (replicate L.length (-1)) []:=by
 refine ⟨by simp,fun j hj h0=>?_,fun j j' hj _ h0=>?_⟩
 ·rw [Zgl hj] at h0;omega
 ·rw [Zgl hj] at h0;omega
structure ZRo (L:List Zae) (lens:List Int) (v s:Int) (out:List Zae) (v' s':Int):Prop where
 p:PoolH out
 i:ZNR lens out
 d:out.Nodup
 v:inR out.length v'
 s:inR out.length s'
 again:ZNv out v' s' out v' s'
theorem ZNv.props {L:List Zae} {lens:List Int} {v s:Int} {out:List Zae} {v' s':Int} (h:ZNv L v s out v' s') (hL:PoolH L) (hI:ZNR lens L) (hD:L.Nodup) (hv:inR L.length v) (hs:inR L.length s):ZRo L lens v s out v' s':=by
 obtain ⟨⟨num1,out1,num2,h1,h2,rfl,rfl⟩⟩:=h;have l0:(replicate L.length (-1:Int)).length=L.length:=by simp
 obtain ⟨k1,p1⟩:=Z2p.kp hL h1 hv l0;obtain ⟨k2,p2⟩:=Z2p.kp hL h2 hs k1.len;have ok1:=Z2p.ok hL h1 hv (ZLr.init L);have ok2:=Z2p.ok hL h2 hs ok1;have s1:=Z2p.sur hL h1 hv l0 (fun k hk=>by simp at hk);have s2:=Z2p.sur hL h2 hs k1.len s1;have pv:0<=atI num2 v:=by rw [k2.old v hv.1 p1];exact p1
 have get:∀ (k:Nat) x,out[k]?=some x->∃ j,inR L.length j/\atI num2 j=k/\x=((nA L j).1,(nA L j).2.1,(nA L j).2.2.map (atI num2))/\(∀ q∈(nA L j).2.2,inR L.length q/\0<=atI num2 q/\atI num2 q < k):=fun k x hx=>by
  obtain ⟨j,j1,j2⟩:=s2 k (ZaA hx);obtain ⟨a,b,c⟩:=ok2.at_ j j1 (by omega);rw [j2,Int.toNat_natCast,hx] at b;refine ⟨j,j1,j2,Option.some.inj b,fun q hq=>⟨?_,(c q hq).1,by have:=(c q hq).2;omega⟩⟩;have:=hL.k _ _ (ZKS j1) q hq;have h1:=j1.1;have h2:=j1.2
  exact ⟨this.1,by omega⟩
 refine ⟨⟨fun k x hx q hq=>?_,fun x hx m hm=>?_⟩,fun x hx=>?_,?_,⟨pv,(ok2.at_ v hv pv).1⟩,⟨p2,(ok2.at_ s hs p2).1⟩,?_⟩
 ·obtain ⟨j,j1,j2,rfl,j4⟩:=get k x hx;obtain ⟨q',hq',rfl⟩:=mem_map.1 hq;exact (j4 q' hq').2
 ·obtain ⟨k,hk⟩:=getElem?_of_mem hx;obtain ⟨j,j1,j2,rfl,j4⟩:=get k x hk;rw [length_map];exact hL.a _ (ZKF j1) m hm
 ·obtain ⟨k,hk⟩:=getElem?_of_mem hx;obtain ⟨j,j1,j2,e,j4⟩:=get k x hk;have j0:0<=atI num2 j:=by omega
  have e2:=ZQG hL ok2 j1 j0;rw [<-e] at e2;rw [<-e2];exact fun hr=>hI _ (ZKF j1) (ZRe hL ok2 j1 j0 hr)
 ·rw [List.nodup_iff_pairwise_ne,List.pairwise_iff_getElem];intro a b ha hb hab e5;obtain ⟨j,j1,j2,e1,j4⟩:=get a _ (getElem?_eq_getElem ha);obtain ⟨i,i1,i2,e3,i4⟩:=get b _ (getElem?_eq_getElem hb);rw [e1,e3] at e5;injection e5 with f1 f2;injection f2 with f2 f3;have kids:(nA L j).2.2=(nA L i).2.2:=by
   have len:(nA L j).2.2.length=(nA L i).2.2.length:=by have:=congrArg List.length f3;simpa using this
   refine List.ext_getElem len fun n n1 n2=>?_;have e6:((nA L j).2.2.map (atI num2))[n]?=((nA L i).2.2.map (atI num2))[n]?:=by rw [f3]
   rw [getElem?_map,getElem?_map,getElem?_eq_getElem n1,getElem?_eq_getElem n2] at e6;have e7:=Option.some.inj e6;have m1:=j4 _ (getElem_mem n1);have m2:=i4 _ (getElem_mem n2);exact ok2.inj _ _ m1.1 m2.1 m1.2.1 e7
  have eN:nA L j=nA L i:=Prod.ext f1 (Prod.ext f2 kids);have gj:=ZKS j1;have gi:=ZKS i1;rw [eN] at gj;have lj:=ZaA gj;have:=(List.getElem?_inj lj hD).1 (gj.trans gi.symm);have:=j1.1;have:=i1.1
  have:j=i:=by omega
  subst this;omega
 ·have sub1:Sub num1 num2:=fun j hj h0=>k2.old j hj h0;have r0:RnR L num2 out (replicate L.length (-1)) (replicate out.length (-1)):=by
   refine ⟨by simp,fun j hj h0=>?_⟩;rw [Zgl hj,Zgl ⟨h0,(ok2.at_ j hj h0).1⟩]
  obtain ⟨m1,w1,r1⟩:=Z2p.sim hL ok2 h1 hv l0 sub1 r0;obtain ⟨m2,w2,r2⟩:=Z2p.sim hL ok2 h2 hs k1.len (fun _ _ _=>rfl) r1;exact ⟨m1,out1,m2,w1,w2,(r2.at_ v hv pv).symm,(r2.at_ s hs p2).symm⟩
theorem ZKH {L:List Zae} (h:L.Nodup) (n:Zae):(plM L n).2.Nodup:=by
 show (ZHQ L n).Nodup;unfold ZHQ;split
 ·exact h
 ·rename_i hn;rw [List.nodup_append];exact ⟨h,by simp,fun a ha b hb=>by rw [mem_singleton.1 hb];rintro rfl;exact hn ha⟩
theorem ZM2 {lens:List Int} {L:List Zae} (h:L.Nodup) (n:Zae):(inM lens L n).2.Nodup:=by
 unfold inM;split
 ·exact ZKH h _
 ·split
  ·exact ZKH (ZKH h _) _
  ·split
   ·split
    ·exact ZKH h _
    ·exact ZKH h _
   ·split
    ·exact h
    ·exact ZKH h _
def ZLV (idx:List (ByteArray×Int)) (N:List Zae):Prop:=∀ y:Zae,Zc3 (ZaS .str) idx (Zvy y.1 y.2.1 y.2.2)=if y∈N then some (ZH4 N y) else none
theorem ZLV.nil:ZLV [] []:=fun y=>by simp [Zc3]
theorem ZMV {N es:List Zae} {y:Zae} (h:y∈N):ZH4 (N++es) y=ZH4 N y:=by
 unfold ZH4;rw [if_pos (List.mem_append_left _ h),if_pos h,List.idxOf_append,if_pos h]
theorem ZM3 {N:List Zae} {y:Zae} (h:y∉N):ZH4 (N++[y]) y=N.length:=by
 unfold ZH4;rw [if_pos (by simp),List.idxOf_append,if_neg h];simp
theorem ZLV.snoc {idx:List (ByteArray×Int)} {N:List Zae} (h:ZLV idx N) {y:Zae} (hy:y∉N):ZLV (ZfQ (ZaS .str) idx (Zvy y.1 y.2.1 y.2.2) (N.length:Int)) (N++[y]):=fun z=>by
 rw [ZeW];by_cases e:z=y
 ·subst e;rw [if_pos rfl,if_pos (by simp),ZM3 hy]
 ·have hk:Zvy z.1 z.2.1 z.2.2≠Zvy y.1 y.2.1 y.2.2:=fun hk=>by
   obtain ⟨k1,k2,k3⟩:=Zm7 hk;exact e (Prod.ext k1 (Prod.ext k2 k3))
  rw [if_neg hk,h z];by_cases m:z∈N
  ·rw [if_pos m,if_pos (List.mem_append_left _ m),ZMV m]
  ·rw [if_neg m,if_neg (fun q=>by rcases mem_append.1 q with q | q;exact m q;exact e (mem_singleton.1 q))]
def PR (p:List Int) (q:Int×List Zae) (r:Int×List Int×List Zae×List (ByteArray×Int)):Prop:=∃ idx,ZLV idx q.2/\r=(q.1,p,q.2,idx)
structure ZLs (L:List Zae):Prop extends PoolH L where
 w:∀ x∈L,NodeW x
 n:L.length<=100000
theorem ZBa (p:List Int) {L:List Zae} (hL:L.length<=100000) {idx:List (ByteArray×Int)} (hI:ZLV idx L) (n:Zae) (hn:NodeW n):Ret (F44 n.1 n.2.1 p n.2.2 L idx) (PR p (plM L n)):=by
 have l1:=ZdS hn.op.1 hn.op.2;have l2:=ZdS hn.imm.1 hn.imm.2;simp only [F44,ZpT _ hn.op.1 hn.op.2 [] (by simp),wq,reduceCtorEq,nil_append];refine ⟨fun _=>?_,fun h=>absurd h (by simp only [length_cons,length_nil];omega)⟩;rw [ZpT _ hn.imm.1 hn.imm.2 _ (by simp only [length_append,length_cons,length_nil];omega)];simp only [ZaH];refine Zac (fun q:Int×List Int×List Int×List Int×List Zae×List (ByteArray×Int)=>∃ j:Nat,j<=n.2.2.length/\q=((j:Int),p,n.2.2,ZgW n.1 (n.2.1::n.2.2.take j),L,idx)) (fun q=>n.2.2.length - q.1.toNat) ?_ _ ⟨0,by omega,by simp [ZgW,ZfT]⟩;rintro _ ⟨j,hj,rfl⟩;have hk:=hn.k;simp only [ZDT,wq,reduceCtorEq];refine ⟨fun hlt=>Zaj (by omega) hlt fun y hy hm=>?_,fun hge=>?_⟩
 ·have hb:(ZgW n.1 (n.2.1::n.2.2.take j)).length<=30000:=by
   have h1:=Zm8 (l:=n.2.1::n.2.2.take j) (fun x hx=>by
    rcases mem_cons.1 hx with rfl | hx
    ·exact hn.imm
    ·exact hn.kid x (mem_of_mem_take hx))
   have h2:(n.2.2.take j).length<=1000:=by rw [length_take];omega
   simp only [length_cons] at h1;simp only [ZgW,length_append];omega
  simp only [Za4 hy];refine ⟨fun _=>?_,fun h=>absurd h (by simp only [length_cons,length_nil];omega)⟩;have hy':=hn.kid y hm;rw [ZpT _ hy'.1 hy'.2 _ (by simp only [length_append,length_cons,length_nil];omega)];have hw:=Zab j (by omega);simp only [ZaH,hw];refine ⟨⟨j+1,by omega,?_⟩,by omega⟩;rw [Zax] at hy;rw [take_add_one,hy];have e:ZgW n.1 (n.2.1::(n.2.2.take j++[y]))=ZgW n.1 (n.2.1::n.2.2.take j)++(32::ZeB y):=by simp [ZgW,ZfT]
  show _=((_:Int),p,n.2.2,ZgW n.1 (n.2.1::(n.2.2.take j++[y])),L,idx)
  rw [e];simp
 ·have:j=n.2.2.length:=by omega
  subst this;rw [List.take_length];have hg:Zc3 (ZaS .str) idx (ofB (ZgW n.1 (n.2.1::n.2.2)))=if n∈L then some (ZH4 L n) else none:=hI n
  have e3:(n.1,n.2.1,([]:List Int)++n.2.2)=n:=rfl;rw [hg,e3];by_cases hm:n∈L
  ·rw [if_pos hm];simp only [Option.isSome_some,Option.getD_some,wq,reduceCtorEq];refine ⟨idx,?_,?_⟩
   ·show ZLV idx (ZHQ L n);unfold ZHQ;rw [if_pos hm];exact hI
   ·show _=(ZH4 L n,p,ZHQ L n,idx)
    unfold ZHQ;rw [if_pos hm]
  ·rw [if_neg hm];simp only [Option.isSome_none,wq,reduceCtorEq];refine ⟨fun _=>⟨fun _=>?_,fun h=>absurd h (by simp only [length_cons,length_nil];omega)⟩,fun h=>absurd h (by simp only [length_cons,length_nil];omega)⟩;refine ⟨ZfQ (ZaS .str) idx (Zvy n.1 n.2.1 n.2.2) (L.length:Int),?_,?_⟩
   ·show ZLV _ (ZHQ L n);unfold ZHQ;rw [if_neg hm];exact hI.snoc hm
   ·show _=(ZH4 L n,p,ZHQ L n,_)
    unfold ZHQ ZH4;rw [if_neg hm,if_neg hm];have:wrap .i64 (((L++[n]).length:Int) - 1)=(L.length:Int):=by
     rw [Zau (by simp<;>omega) (by simp<;>omega)];simp
    rw [this];rfl
theorem ZK8 {L:List Zae} {i:Int} (h:inR L.length i):gI L i=some (nA L i):=by
 obtain ⟨a,b⟩:=h;obtain ⟨k,rfl⟩:∃ k:Nat,i=k:=⟨i.toNat,by omega⟩
 rw [Zax];exact ZKS ⟨a,b⟩
theorem ZNG {n:Zae} {m:Nat} (hl:n.2.2.length=m) {k:Nat} (hk:k < m):gI n.2.2 (k:Int)=some (kk n k):=by
 rw [Zax];unfold kk;rw [getElem?_eq_getElem (by omega)];rfl
theorem ZLa {n:Zae} {m:Nat} (hl:n.2.2.length=m) (hk:0 < m):gI n.2.2 0=some (kk n 0):=ZNG hl hk
theorem ZLf {n:Zae} {m:Nat} (hl:n.2.2.length=m) (hk:1 < m):gI n.2.2 1=some (kk n 1):=ZNG hl hk
theorem ZO1 {n:Zae} {m:Nat} (hl:n.2.2.length=m) (hk:2 < m):gI n.2.2 2=some (kk n 2):=ZNG hl hk
theorem ZM4 {lens:List Int} {k:Int} (h:0<=k/\k < lens.length):gI lens k=some (atI lens k):=ZaB h
section
variable {L:List Zae} (hL:PoolH L) (p:List Int) (idx:List (ByteArray×Int))
include hL
theorem PoolH.two {i:Int} (hi:inR L.length i) {op:Int} (e:(nA L i).1=op) (ar:ZaY op=(((2:Nat):Int),true)):gI (nA L i).2.2 0=some (kk (nA L i) 0)/\gI (nA L i).2.2 1=some (kk (nA L i) 1)/\inR L.length (kk (nA L i) 0)/\inR L.length (kk (nA L i) 1):=by
 have ha:ZaY (nA L i).1=(((2:Nat):Int),true):=by rw [e];exact ar
 have hl:=hL.a _ (ZKF hi) 2 ha;exact ⟨ZLa hl (by omega),ZLf hl (by omega),hL.kidR hi ha (k:=0) (by omega),hL.kidR hi ha (k:=1) (by omega)⟩
theorem ZtE {i:Int} (h:inR L.length i) (n:Int):F78 i n p L idx=some (isC L i n,p,L,idx):=by
 simp only [F78,ZK8 h,bind_some,isC];cases hb:((nA L i).1==1)<;>simp [Z7J]
omit hL in
theorem Zzk (k:Int):F80 k p L idx=some (if 0<=Zjl p k then Zjl p k else 0,decide (0<=Zjl p k),p,L,idx):=by
 simp only [F80];by_cases h0:k < 0
 ·have e:Zjl p k=-1:=by unfold Zjl;rw [if_neg (by omega)]
  simp [e,decide_eq_true h0,ZxJ]
 ·rw [decide_eq_false h0];by_cases h1:k>=(p.length:Int)
  ·have e:Zjl p k=-1:=by unfold Zjl;rw [if_neg (by omega)]
   simp [e,decide_eq_true h1,ZxJ]
  ·have e:Zjl p k=atI p k:=by unfold Zjl;rw [if_pos (by omega)]
   have g:=ZM4 (show 0<=k/\k < p.length by omega);simp only [decide_eq_false h1,cond_false,g,bind_some,Sum.elim_inl,e];by_cases h2:atI p k < 0
   ·rw [decide_eq_true h2,if_neg (by omega),decide_eq_false (by omega)];simp [ZxJ]
   ·rw [decide_eq_false h2,if_pos (by omega),decide_eq_true (show 0<=atI p k by omega)];simp [ZxJ,g]
theorem Z7T {c:Int} (hc:inR L.length c) (i k:Int):F47 c i k p L idx=some (inB L p c i k,p,L,idx):=by
 simp only [F47,ZK8 hc,Zzk,bind_some,inB];by_cases h0:0<=Zjl p k
 ·rw [decide_eq_true h0,if_pos h0];by_cases h1:(nA L c).1=19
  ·obtain ⟨a,b,r0,r1⟩:=hL.two hc h1 rfl;simp only [h1,a,b,bind_some,cond_true,beq_self_eq_true,Bool.true_and];by_cases h2:kk (nA L c) 0=i
   ·subst h2;simp [ZtE hL p idx r1,Z9y]
   ·have e2:(kk (nA L c) 0==i)=false:=by simpa using h2
    simp [e2,Z9y]
  ·have:((nA L c).1==19)=false:=by simpa using h1
   simp [this,Z9y]
 ·rw [decide_eq_false h0];simp [Z9y]
theorem Zzc {m:Int} (hm:inR L.length m) (i k:Int):F79 m i k p L idx=some ((nA L m).1==20&&inB L p (kk (nA L m) 0) i k,p,L,idx):=by
 simp only [F79,ZK8 hm,bind_some];by_cases h1:(nA L m).1=20
 ·have ha:ZaY (nA L m).1=(((1:Nat):Int),true):=by rw [h1];rfl
  have hl:=hL.a _ (ZKF hm) 1 ha;simp [h1,ZLa hl,Z7T hL p idx (hL.kidR hm ha (k:=0) (by omega)),ZwU]
 ·have:((nA L m).1==20)=false:=by simpa using h1
  simp [this,ZwU]
def ZLW (L:List Zae) (d:Int):Int×Int×Bool:=match ZLG L d with
 | some (b,e)=>(b,e,true)
 | none=>(0,0,false)
theorem Zm9 {d:Int} (hd:inR L.length d):F77 d p L idx=some ((ZLW L d).1,(ZLW L d).2.1,(ZLW L d).2.2,p,L,idx):=by
 refine Ret.eq ?_;simp only [F77,ZK8 hd,wq,reduceCtorEq];by_cases h4:(nA L d).1=4
 ·obtain ⟨a,b,r0,r1⟩:=hL.two hd h4 rfl;refine ⟨fun h=>absurd h4 h,fun _=>?_⟩;have w1:wrap .i64 (1 - 0)=1:=rfl;have w0:wrap .i64 (1 - 1)=0:=rfl
  -- one turn
  have turn:∀ (k:Int) (b e:Int),inR L.length e->gI (nA L d).2.2 k=some b->gI (nA L d).2.2 (wrap .i64 (1 - k))=some e->k < 2->∀ Q:(Int×List Int×List Zae×List (ByteArray×Int))⊕(Int×Int×Bool×List Int×List Zae×List (ByteArray×Int))->Prop,
   (zT L e b=true->Q (.inr (b,e,true,p,L,idx)))->(zT L e b=false->Q (.inl (wrap .i64 (k+1),p,L,idx)))->Ret (ZAy (nA L d) (k,p,L,idx)) Q:=by
   intro k b e he hb hbe hk Q q1 q2;simp only [ZAy,decide_eq_true hk,cond_true,hb,hbe,ZK8 he,bind_some];by_cases h15:(nA L e).1=15
   ·obtain ⟨a',b',r0',r1'⟩:=hL.two he h15 rfl;simp only [h15,beq_self_eq_true,cond_true,a',b',bind_some];by_cases e0:kk (nA L e) 0=b
    ·have ez:zT L e b=isC L (kk (nA L e) 1) 0:=by unfold zT;simp [h15,e0]
     rw [ez] at q1 q2;simp only [e0,beq_self_eq_true,cond_true,ZtE hL p idx r1',bind_some,Sum.elim_inl,ZwR];cases hz:isC L (kk (nA L e) 1) 0
     ·simpa [ZaH] using q2 hz
     ·simpa [ZaH] using q1 hz
    ·have ez:zT L e b=false:=by unfold zT;simp [e0]
     have e1:(kk (nA L e) 0==b)=false:=by simpa using e0
     simp only [e1,cond_false,bind_some,Sum.elim_inl,ZwR];simpa [ZaH] using q2 ez
   ·have ez:zT L e b=false:=by
     unfold zT;have:((nA L e).1==15)=false:=by simpa using h15
     simp [this]
    have e1:((nA L e).1==15)=false:=by simpa using h15
    simp only [e1,cond_false,bind_some,Sum.elim_inl,ZwR];simpa [ZaH] using q2 ez
  have ed:ZLW L d=(if zT L (kk (nA L d) 1) (kk (nA L d) 0)=true then (kk (nA L d) 0,kk (nA L d) 1,true) else if zT L (kk (nA L d) 0) (kk (nA L d) 1)=true then (kk (nA L d) 1,kk (nA L d) 0,true) else (0,0,false)):=by
   cases z1:zT L (kk (nA L d) 1) (kk (nA L d) 0)<;>cases z2:zT L (kk (nA L d) 0) (kk (nA L d) 1)<;>simp [ZLW,ZLG,h4,z1,z2]
  refine Zac (fun q:Int×List Int×List Zae×List (ByteArray×Int)=>∃ k:Nat,k<=2/\q=((k:Int),p,L,idx)/\(1<=k->zT L (kk (nA L d) 1) (kk (nA L d) 0)=false)/\(2<=k->zT L (kk (nA L d) 0) (kk (nA L d) 1)=false)) (fun q=>2 - q.1.toNat) ?_ _ ⟨0,by omega,rfl,(fun h=>by omega),fun h=>by omega⟩;rintro _ ⟨k,hk,rfl,k1,k2⟩;have hk3:k=0\/k=1\/k=2:=by omega
  rcases hk3 with rfl | rfl | rfl
  ·refine turn 0 _ _ r1 a b (by omega) _ (fun hz=>?_) (fun hz=>?_)
   ·rw [ed,if_pos hz];rfl
   ·exact ⟨⟨1,by omega,rfl,fun _=>hz,fun h=>by omega⟩,by show 2 - 1 < 2 - 0;omega⟩
  ·refine turn 1 _ _ r0 b a (by omega) _ (fun hz=>?_) (fun hz=>?_)
   ·rw [ed,if_neg (by simp [k1 (by omega)]),if_pos hz];rfl
   ·exact ⟨⟨2,by omega,rfl,fun _=>k1 (by omega),fun _=>hz⟩,by show 2 - 2 < 2 - 1;omega⟩
  ·simp only [ZAy,wq,reduceCtorEq];rw [ed,if_neg (by simp [k1 (by omega)]),if_neg (by simp [k2 (by omega)])];exact ⟨fun h=>by omega,fun _=>rfl⟩
 ·refine ⟨fun _=>?_,fun h=>absurd h h4⟩;unfold ZLW ZLG;rw [if_neg h4]
end
section
variable {L:List Zae} (hL:PoolH L) (p:List Int) (idx:List (ByteArray×Int))
include hL
theorem ZO2 (rec:Int->Int->(List Int)->(List Int)->(List (Int×Int×List Int))->(List (ByteArray×Int))->Option (Int×List Int×(List (Int×Int×List Int))×List (ByteArray×Int))) {x m:Int} (hx:inR L.length x) (hm:inR L.length m):E46 rec x m p L idx=match ZLh L p x m with
 | none=>some (0,false,p,L,idx)
 | some n=>(rec n.1 n.2.1 p n.2.2 L idx).bind fun r=>some (r.1,true,r.2.1,r.2.2.1,r.2.2.2):=by
 simp only [E46,ZK8 hx,ZK8 hm,bind_some];by_cases h78:(nA L x).1=7\/(nA L x).1=8
 ·have ar:ZaY (nA L x).1=(((2:Nat):Int),true):=by rcases h78 with e | e<;>rw [e]<;>rfl
  obtain ⟨a,b,r0,r1⟩:=hL.two hx (op:=(nA L x).1) rfl ar;unfold ZLh;rw [if_pos h78];have e79:∀ {β:Type} (f:Bool->Option β),(bif (nA L x).1==7 then f true else f ((nA L x).1==8))=f true:=fun f=>by
   rcases h78 with e | e<;>simp [e]
  rw [e79 (fun z=>some (Sum.inl (z,p,L,idx)))];simp only [bind_some,Sum.elim_inl,ZEc,cond_true,a,b,Zm9 hL p idx r1];unfold ZLW;cases hd:ZLG L (kk (nA L x) 1) with
  | none=>simp [ZMk,Z9w]
  | some be=>
   obtain ⟨b',e⟩:=be;dsimp only;by_cases h4:(nA L m).1=4
   ·obtain ⟨c,d,s0,s1⟩:=hL.two hm h4 rfl;simp only [h4,beq_self_eq_true,cond_true,c,d,bind_some];by_cases he:kk (nA L m) 0=e
    ·subst he;simp only [beq_self_eq_true,cond_true,ZtE hL p idx s1,bind_some,Sum.elim_inl,ZMk,true_and];cases hz:isC L (kk (nA L m) 1) (-1)
     ·simp [Z9w]
     ·simp only [cond_true,a,bind_some,if_true];cases rec (nA L x).1 (nA L x).2.1 p [kk (nA L x) 0,b'] L idx<;>simp [Z9w]
    ·have e2:(kk (nA L m) 0==e)=false:=by simpa using he
     rw [if_neg (fun h=>he h.2.1)];simp [e2,ZMk,Z9w]
   ·have e2:((nA L m).1==4)=false:=by simpa using h4
    rw [if_neg (fun h=>h4 h.1)];simp [e2,ZMk,Z9w]
 ·have e7:((nA L x).1==7)=false:=by simpa using fun e=>h78 (.inl e)
  have e8:((nA L x).1==8)=false:=by simpa using fun e=>h78 (.inr e)
  unfold ZLh;rw [if_neg h78];simp only [e7,e8,cond_false,bind_some,Sum.elim_inl,ZEc];by_cases h23:(nA L x).1=23
  ·obtain ⟨a,b,r0,r1⟩:=hL.two hx h23 rfl;rw [if_pos h23];simp only [h23,beq_self_eq_true,cond_true,b,ZK8 r1,bind_some];by_cases h9:(nA L (kk (nA L x) 1)).1=9
   ·obtain ⟨c,d,s0,s1⟩:=hL.two r1 h9 rfl;simp only [h9,beq_self_eq_true,cond_true,c,d,bind_some];by_cases hk:kk (nA L (kk (nA L x) 1)) 1=m
    ·simp only [hk,beq_self_eq_true,cond_true,Zzc hL p idx hm,bind_some,Sum.elim_inl,ZMM,true_and];by_cases hz:(nA L m).1=20/\inB L p (kk (nA L m) 0) (kk (nA L (kk (nA L x) 1)) 0) (nA L x).2.1=true
     ·rw [if_pos hz];have:((nA L m).1==20&&inB L p (kk (nA L m) 0) (kk (nA L (kk (nA L x) 1)) 0) (nA L x).2.1)=true:=by rw [hz.2,hz.1];rfl
      simp only [this,cond_true,a,c,bind_some];cases rec 23 (nA L x).2.1 p [kk (nA L x) 0,kk (nA L (kk (nA L x) 1)) 0] L idx<;>simp [Z9w]
     ·rw [if_neg hz];have:((nA L m).1==20&&inB L p (kk (nA L m) 0) (kk (nA L (kk (nA L x) 1)) 0) (nA L x).2.1)=false:=by
       rw [Bool.eq_false_iff];intro h;rw [Bool.and_eq_true] at h;exact hz ⟨by simpa using h.1,h.2⟩
      simp only [this];simp [Z9w]
    ·have e2:(kk (nA L (kk (nA L x) 1)) 1==m)=false:=by simpa using hk
     rw [if_neg (fun h=>hk h.2.1)];simp [e2,ZMM,Z9w]
   ·have e2:((nA L (kk (nA L x) 1)).1==9)=false:=by simpa using h9
    rw [if_neg (fun h=>h9 h.1)];simp [e2,ZMM,Z9w]
  ·have e2:((nA L x).1==23)=false:=by simpa using h23
   rw [if_neg h23];simp [e2,Z9w]
end
structure ZLt (L:List Zae) (n:Zae):Prop where
 w:NodeW n
 k:∀ q∈n.2.2,inR L.length q
 a:∀ m:Nat,ZaY n.1=((m:Int),true)->n.2.2.length=m
def ImZ (n:Zae):Prop:=n.1=5\/n.1=7\/n.1=8->n.2.1=0
theorem ZM5 {L:List Zae} (hL:ZLs L) {q:Int} (h:inR L.length q):I64 q:=by
 have:=hL.n;have:=h.1;have:=h.2;constructor<;>omega
section
variable {L:List Zae} (hL:ZLs L) (p:List Int)
include hL
theorem ZLi {n:Zae} (hn:ZLt L n) (h4:n.1=4):ZLt L (ZLe L n):=by
 obtain ⟨f1,f2⟩:=ZLk (L:=L) h4 (hn.a 2 (by rw [h4];rfl)) hn.k;refine ⟨?_,f1,f2⟩;unfold ZLe;split
 ·refine ⟨?_,hn.w.imm,by show 2<=1000;omega,fun x hx=>?_⟩
  ·show I64 4;constructor<;>omega
  ·have hl:=hn.a 2 (by rw [h4];rfl);have k0:=hn.k _ (ZK6 (k:=0) hl (by omega));have k1:=hn.k _ (ZK6 (k:=1) hl (by omega));rcases mem_cons.1 hx with rfl | hx
   ·exact ZM5 hL k1
   ·rw [mem_singleton.1 hx];exact ZM5 hL k0
 ·exact hn.w
theorem ZLu {a m:Int} {n:Zae} (ha:inR L.length a) (hx:ZLh L p a m=some n):ZLt L n:=by
 obtain ⟨x1,x2,x3,x4⟩:=ZKW hL.toPoolH ha hx;have hw:=hL.w _ (ZKF ha);refine ⟨⟨?_,by rw [x3];exact hw.imm,by omega,fun q hq=>ZM5 hL (x4 q hq).1⟩,fun q hq=>(x4 q hq).1,fun k hk=>?_⟩
 ·rcases x1 with e | e | e<;>rw [e]<;>constructor<;>omega
 ·rcases x1 with e | e | e<;>rw [e] at hk<;>simp [ZaY] at hk<;>omega
omit hL in
theorem ZNH {L:List Zae} (n:Zae):(plM L n).2.length<=L.length+1:=ZHl L n
theorem ZLS {n:Zae} (hn:NodeW n):∀ x∈(plM L n).2,NodeW x:=fun x hx=>by
 have hx:x∈ZHQ L n:=hx;unfold ZHQ at hx;split at hx
 ·exact hL.w x hx
 ·rcases mem_append.1 hx with hx | hx
  ·exact hL.w x hx
  ·rw [mem_singleton.1 hx];exact hn
theorem ZKP {n:Zae} (hn:ZLt L n) (hb:L.length < 100000):ZLs (plM L n).2:=
 ⟨(ZKT hL.toPoolH hn.k hn.a).p,ZLS hL hn.w,by have:=ZNH (L:=L) n;omega⟩
theorem ZLI {c:Zae} (hc:ZLt L c) (hb:L.length < 100000) {q:Int} (hq:inR L.length q):ZLt (plM L c).2 (4,0,[q,(plM L c).1]):=by
 obtain ⟨c1,c2,c3,⟨es,c4⟩⟩:=ZKT hL.toPoolH hc.k hc.a;have hW:=ZKP hL hc hb;have hk:∀ x∈[q,(plM L c).1],inR (plM L c).2.length x:=fun x hx=>by
  rcases mem_cons.1 hx with rfl | hx
  ·exact ⟨hq.1,by rw [c4,length_append];have:=hq.2;omega⟩
  ·rw [mem_singleton.1 hx];exact c2
 refine ⟨⟨by show I64 4;constructor<;>omega,by show I64 0;constructor<;>omega,by show 2<=1000;omega,fun x hx=>ZM5 hW (hk x hx)⟩,hk,fun m hm=>?_⟩;have:ZaY 4=((m:Int),true):=hm;simp [ZaY] at this;show 2=m;omega
variable {idx:List (ByteArray×Int)} (hI:ZLV idx L)
include hI
theorem ZNw (rec) {n:Zae} (hn:ZLt L n) (h4:n.1≠4) (h5:n.1≠5) (h9:n.1≠9) (h22:n.1≠22):Ret (G22 rec n.1 n.2.1 p n.2.2 L idx) (PR p (plM L n)):=by
 have e4:(n.1==4)=false:=by simpa using h4
 have e5:(n.1==5)=false:=by simpa using h5
 have e9:(n.1==9)=false:=by simpa using h9
 have e22:(n.1==22)=false:=by simpa using h22
 simp only [G22,e4,e5,e9,e22,cond_false,ZCF,wq,reduceCtorEq];exact ZBa p hL.n hI n hn.w
theorem ZM6 (rec) {n:Zae} (hn:ZLt L n) (h4:n.1=4):Ret (G22 rec n.1 n.2.1 p n.2.2 L idx) (PR p (plM L (ZLe L n))):=by
 have hl:=hn.a 2 (by rw [h4];rfl);have r0:=hn.k _ (ZK6 (k:=0) hl (by omega));have r1:=hn.k _ (ZK6 (k:=1) hl (by omega));have hf:=ZLi hL hn h4;have pl:=ZBa p hL.n hI (ZLe L n) hf.w;unfold ZLe at pl |-
 obtain ⟨op,imm,kids⟩:=n;dsimp only at h4;subst h4;have g0:gI kids 0=some (kk (4,imm,kids) 0):=ZLa hl (by omega);have g1:gI kids 1=some (kk (4,imm,kids) 1):=ZLf hl (by omega);simp only [G22,g0,g1,ZK8 r0,ZK8 r1,bind_some,beq_self_eq_true,cond_true];by_cases h1:(nA L (kk (4,imm,kids) 0)).1=1
 ·by_cases h2:(nA L (kk (4,imm,kids) 1)).1=1
  ·by_cases h3:(nA L (kk (4,imm,kids) 0)).2.1 > (nA L (kk (4,imm,kids) 1)).2.1
   ·rw [if_pos ⟨h1,.inr h3⟩] at pl |-
    simp only [h1,h2,h3,beq_self_eq_true,bne_self_eq_false,decide_true,cond_true,cond_false,ZCF,ZDZ,g0,g1,wq,reduceCtorEq];exact pl
   ·rw [if_neg (fun h=>h.2.elim (fun e=>e h2) h3)] at pl |-
    simp only [h1,h2,h3,beq_self_eq_true,bne_self_eq_false,decide_false,cond_true,cond_false,ZCF,ZDZ,g0,g1,wq,reduceCtorEq];exact pl
  ·rw [if_pos ⟨h1,.inl h2⟩] at pl |-
   have e2:((nA L (kk (4,imm,kids) 1)).1 != 1)=true:=by simpa using h2
   simp only [h1,e2,beq_self_eq_true,cond_true,ZCF,ZDZ,g0,g1,wq,reduceCtorEq];exact pl
 ·rw [if_neg (fun h=>h1 h.1)] at pl |-
  have e1:((nA L (kk (4,imm,kids) 0)).1==1)=false:=by simpa using h1
  simp only [e1,cond_false,ZCF,ZDZ,g0,g1,wq,reduceCtorEq];exact pl
theorem ZO4 (k:Nat) {n:Zae} (hn:ZLt L n) (hb:L.length < 100000):Ret (N22 (k+2) n.1 n.2.1 p n.2.2 L idx) (PR p (inM p L n)):=by
 show Ret (G22 (N22 (k+1)) n.1 n.2.1 p n.2.2 L idx) (PR p (inM p L n));have pl:=ZBa p hL.n hI n hn.w;unfold inM;split
 ·rename_i h4;exact ZM6 hL p hI _ hn h4
 ·rename_i h4;have e4:(n.1==4)=false:=by simpa using h4
  by_cases h5:n.1=5
  ·have hl:=hn.a 2 (by rw [h5];rfl);have r0:=hn.k _ (ZK6 (k:=0) hl (by omega));have r1:=hn.k _ (ZK6 (k:=1) hl (by omega));have e5:(n.1==5)=true:=by simpa using h5
   simp only [G22,e4,e5,ZLa hl (by omega),ZLf hl (by omega),ZK8 r0,ZK8 r1,bind_some,cond_true,cond_false];by_cases h1:(nA L (kk n 1)).1=1
   ·rw [if_pos ⟨h5,h1⟩];have i1:=hL.w _ (ZKF r1);have wI:∀ x:Int,I64 (wrap .i64 x):=fun x=>by
     exact ZLB x
    have hc:ZLt L (1,wrap .i64 (-(nA L (kk n 1)).2.1),[]):=by
     refine ⟨⟨by show I64 1;constructor<;>omega,wI _,by simp,(fun x hx=>by cases hx)⟩,(fun q hq=>by cases hq),fun m hm=>?_⟩;have:ZaY 1=((m:Int),true):=hm;simp [ZaY] at this;show 0=m;omega
    have plc:=ZBa p hL.n hI _ hc.w;obtain ⟨c1,c2,c3,⟨es,c4⟩⟩:=ZKT hL.toPoolH hc.k hc.a;simp only [h1,beq_self_eq_true,cond_true,F45,Int.zero_sub,wq,reduceCtorEq];refine Ret.mono plc fun r _ ⟨idx',hI',hr⟩=>?_;subst hr;dsimp only;have hL2:ZLs (plM L (1,wrap .i64 (-(nA L (kk n 1)).2.1),[])).2:=ZKP hL hc hb;have hf2:ZLt (plM L (1,wrap .i64 (-(nA L (kk n 1)).2.1),[])).2 (4,0,[kk n 0,(plM L (1,wrap .i64 (-(nA L (kk n 1)).2.1),[])).1]):=ZLI hL hc hb r0;exact ZM6 hL2 p hI' _ hf2 rfl
   ·rw [if_neg (fun h=>h1 h.2),if_neg (by omega),if_neg (fun h=>by have:=h.1;omega)];have e1:((nA L (kk n 1)).1==1)=false:=by simpa using h1
    simp only [e1,cond_false,ZCF,wq,reduceCtorEq];exact pl
  ·have e5:(n.1==5)=false:=by simpa using h5
   rw [if_neg (fun h=>h5 h.1)];by_cases h9:n.1=9
   ·have hl:=hn.a 2 (by rw [h9];rfl);have r0:=hn.k _ (ZK6 (k:=0) hl (by omega));have r1:=hn.k _ (ZK6 (k:=1) hl (by omega));have e9:(n.1==9)=true:=by simpa using h9
    rw [if_pos h9];simp only [G22,e4,e5,e9,ZLa hl (by omega),ZLf hl (by omega),bind_some,cond_true,cond_false,ZO2 hL.toPoolH p idx _ r0 r1];cases hx:ZLh L p (kk n 0) (kk n 1) with
    | none=>
     simp only [ZCF,wq,reduceCtorEq];exact pl
    | some x=>
     have hf:=ZLu hL p r0 hx;obtain ⟨x1,_⟩:=ZKW hL.toPoolH r0 hx;have:=ZNw hL p hI (N22 k) hf (by omega) (by omega) (by omega) (by omega);simp only [wq,reduceCtorEq];exact Ret.mono this fun r _ h=>h
   ·have e9:(n.1==9)=false:=by simpa using h9
    rw [if_neg h9];by_cases h22:n.1=22
    ·have hl:=hn.a 3 (by rw [h22];rfl);have r0:=hn.k _ (ZK6 (k:=0) hl (by omega));have r1:=hn.k _ (ZK6 (k:=1) hl (by omega));have e22:(n.1==22)=true:=by simpa using h22
     simp only [G22,e4,e5,e9,e22,ZLa hl (by omega),ZLf hl (by omega),ZO1 hl (by omega),bind_some,cond_true,cond_false];by_cases h12:kk n 1=kk n 2
     ·rw [if_pos ⟨h22,.inl h12⟩];have e12:(kk n 1==kk n 2)=true:=by simpa using h12
      simp only [e12,cond_true,wq,reduceCtorEq];exact ⟨idx,hI,rfl⟩
     ·have e12:(kk n 1==kk n 2)=false:=by simpa using h12
      simp only [e12,cond_false,ZK8 r1,bind_some];by_cases h28:(nA L (kk n 1)).1=28
      ·have ar:ZaY (nA L (kk n 1)).1=(((3:Nat):Int),true):=by rw [h28];rfl
       have hl2:=hL.a _ (ZKF r1) 3 ar;simp only [h28,beq_self_eq_true,cond_true,ZLa hl2 (by omega),ZLf hl2 (by omega),bind_some];by_cases h3:kk (nA L (kk n 1)) 0=kk n 2
       ·have e3:(kk (nA L (kk n 1)) 0==kk n 2)=true:=by simpa using h3
        simp only [e3,cond_true,Z7T hL.toPoolH p idx r0,bind_some,Sum.elim_inl,ZMN];cases hb:inB L p (kk n 0) (kk (nA L (kk n 1)) 1) (nA L (kk n 1)).2.1
        ·rw [if_neg (by rintro ⟨_,h | ⟨_,_,h⟩⟩;exact h12 h;cases h)];simp only [ZCF,wq,reduceCtorEq];exact pl
        ·rw [if_pos ⟨h22,.inr ⟨trivial,h3,rfl⟩⟩];simp only [wq,reduceCtorEq];exact ⟨idx,hI,rfl⟩
       ·have e3:(kk (nA L (kk n 1)) 0==kk n 2)=false:=by simpa using h3
        rw [if_neg (by rintro ⟨_,h | ⟨_,h,_⟩⟩;exact h12 h;exact h3 h)];simp only [e3,ZCF,ZMN,wq,reduceCtorEq];exact pl
      ·have e28:((nA L (kk n 1)).1==28)=false:=by simpa using h28
       rw [if_neg (by rintro ⟨_,h | ⟨h,_⟩⟩;exact h12 h;exact h28 h)];simp only [e28,ZCF,ZMN,wq,reduceCtorEq];exact pl
    ·rw [if_neg (fun h=>h22 h.1)];exact ZNw hL p hI _ hn h4 h5 h9 h22
end
section
variable {L:List Zae} (hL:ZLs L) (p:List Int)
include hL
end
theorem ZNI {L:List Zae} {p:List Int} {n:Zae} (hL:PoolH L) (hn:ZLt L n) (hz:ImZ n) (hzL:∀ x∈L,ImZ x):∀ x∈(inM p L n).2,ImZ x:=by
 have pl:∀ {M:List Zae} {c:Zae},(∀ x∈M,ImZ x)->ImZ c->∀ x∈(plM M c).2,ImZ x:=fun {M c} hM hc x hx=>by
  have hx:x∈ZHQ M c:=hx;unfold ZHQ at hx;split at hx
  ·exact hM x hx
  ·rcases mem_append.1 hx with hx | hx
   ·exact hM x hx
   ·rw [mem_singleton.1 hx];exact hc
 have ad:∀ {M:List Zae} {c:Zae},(∀ x∈M,ImZ x)->c.1=4->∀ x∈(plM M (ZLe M c)).2,ImZ x:=fun {M c} hM hc=>pl hM (by
  unfold ZLe;split
  ·intro h;rcases h with h | h | h<;>(exfalso;revert h;show ¬ (4:Int)=_;omega)
  ·intro h;omega)
 unfold inM;split
 ·rename_i h4;exact ad hzL h4
 ·split
  ·exact ad (pl hzL (by intro h;rcases h with h | h | h<;>(exfalso;revert h;show ¬ (1:Int)=_;omega))) rfl
  ·split
   ·rename_i h9;have hl:=hn.a 2 (by rw [h9];rfl);have r0:=hn.k _ (ZK6 (k:=0) hl (by omega));cases hx:ZLh L p (kk n 0) (kk n 1) with
    | none=>exact pl hzL hz
    | some x=>
     obtain ⟨x1,x2,x3,x4⟩:=ZKW hL r0 hx;refine pl hzL fun h=>?_;rw [x3];have:=hzL _ (ZKF r0);unfold ZLh at hx;split at hx
     ·exact this (.inr (by assumption))
     ·split at hx
      ·split at hx
       ·cases hx;rcases h with h | h | h<;>(exfalso;revert h;show ¬ (23:Int)=_;omega)
       ·cases hx
      ·cases hx
   ·split
    ·exact hzL
    ·exact pl hzL hz
structure ZMW (i:Nat) (x:Zae):Prop where
 k:∀ q∈x.2.2,0<=q/\q < i
 a:∀ m:Nat,ZaY x.1=((m:Int),true)->x.2.2.length=m
 i:Zfk x.1 x.2.1=true
theorem ZL4 {l:List Zae} (hG:GraphH l) {i:Nat} {x:Zae} (hx:l[i]?=some x) (h1:atI (Zam l l.length) i≠0):ZMW i x:=by
 have hi:=ZaA hx;have h2:(Zam l l.length)[i]?=some (Zbu l (Zam l i) i x):=by
  rw [Zek l i l.length hi];have hl:=ZaK l i;show (Zam l i++[match l[i]? with | some n=>Zbu l (Zam l i) i n | none=>0])[i]?=_;rw [List.getElem?_append_right (by omega),hl,hx];simp
 have h3:atI (Zam l l.length) i=Zbu l (Zam l i) i x:=by unfold atI;rw [Int.toNat_natCast,h2];rfl
 rw [h3] at h1;have h4:okK (Zam l i) i x=true:=by
  cases h:okK (Zam l i) i x
  ·unfold Zbu at h1;rw [h] at h1;exact absurd rfl h1
  ·rfl
 have hT:Zlj l x (kS (Zam l i) x):=Zgh hG hx (fun j a b hj ha hb=>Zej hG i j a b ha hb) (by rw [ZaK];exact le_refl _) h4;have hns:nsM l x (kS (Zam l i) x)≠0:=by unfold Zbu at h1;rw [h4] at h1;exact h1
 have he:=hT.ns;generalize kS (Zam l i) x=k at *;refine ⟨fun q hq=>?_,fun m hm=>?_,?_⟩
 ·unfold okK at h4;have:=List.all_eq_true.1 h4 q hq;unfold okQ at this;simp only [Bool.and_eq_true,decide_eq_true_eq] at this;exact this.1
 ·by_cases hl:x.2.2.length=m
  ·exact hl
  exfalso;have ht:Z93 l x k true=some 0:=rfl;have e1:((x.2.2.length:Int) != (m:Int))=true:=by simpa using fun e:(x.2.2.length:Int)=m=>hl (by omega)
  have e2:decide ((m:Int)>=0)=true:=decide_eq_true (by omega);have:F49 l x k=some 0:=by
   simp only [F49,Zzi,hm,bind_some,Bool.not_true,cond_false,e2,cond_true,e1,Sum.elim_inl,ht]
  rw [this] at he;exact hns (Option.some.inj he).symm
 ·cases hb:Zfk x.1 x.2.1
  ·exfalso;have ht:Z93 l x k true=some 0:=rfl;have:F49 l x k=some 0:=by
    have h:Ret (F49 l x k) fun a=>a=0:=by
     simp only [F49,Zzi,ZAN,hb,ht,wq,reduceCtorEq]
     repeat' first | apply And.intro | intro _ | trivial
    exact h.eq
   rw [this] at he;exact hns (Option.some.inj he).symm
  ·rfl
theorem ZO6 {x:Zae} (h:Zfk x.1 x.2.1=true):ImZ x:=by
 intro hh;unfold Zfk at h;rw [decide_eq_true_eq] at h;rcases hh with e | e | e<;>rw [e] at h<;>simp at h<;>omega
theorem ZNJ (l:List Zae) (h:GraphH l) (i:Int):F20 l i=some (ZfU (Zam l l.length) i):=by
 by_cases hi:inR l.length i
 ·obtain ⟨j,rfl⟩:∃ j:Nat,i=j:=⟨i.toNat,by have:=hi.1;omega⟩
  have hj:j < l.length:=by have:=hi.2;omega
  rw [ZCB l h j hj];unfold ZfU;rw [if_pos (by rw [ZaK];exact hi)]
 ·unfold ZfU;rw [if_neg (by rw [ZaK];exact hi)];simp only [F20];by_cases h0:i < 0
  ·simp [decide_eq_true h0,Zy1]
  ·have h1:i>=(l.length:Int):=by
    have:¬ (0<=i/\i < l.length):=hi;omega
   simp [decide_eq_false h0,decide_eq_true h1,Zy1]
structure ZL5 (i:Nat) (nums:List Int) (p:List Int) (L:List Zae):Prop where
 len:nums.length=i
 W:ZLs L
 sz:L.length<=2 * i
 z:∀ x∈L,ImZ x
 irr:ZNR p L
 nd:L.Nodup
 hb:∀ q∈nums,HB L i q
theorem ZP2 {L:List Zae} (hL:ZLs L) (hb:L.length < 100000) {p:List Int} {n:Zae} (hn:ZLt L n):∀ x∈(inM p L n).2,NodeW x:=by
 unfold inM;split
 ·rename_i h4;exact ZLS hL (ZLi hL hn h4).w
 ·split
  ·rename_i h4 h5;have hl:=hn.a 2 (by rw [h5.1];rfl);have r0:=hn.k _ (ZK6 (k:=0) hl (by omega));have hc:ZLt L (1,wrap .i64 (-(nA L (kk n 1)).2.1),[]):=by
    refine ⟨⟨by show I64 1;constructor<;>omega,ZLB _,by simp,(fun x hx=>by cases hx)⟩,(fun q hq=>by cases hq),fun m hm=>?_⟩;have:ZaY 1=((m:Int),true):=hm;simp [ZaY] at this;show 0=m;omega
   exact ZLS (ZKP hL hc hb) (ZLi (ZKP hL hc hb) (ZLI hL hc hb r0) rfl).w
  ·split
   ·rename_i h9;have hl:=hn.a 2 (by rw [h9];rfl);have r0:=hn.k _ (ZK6 (k:=0) hl (by omega));cases hx:ZLh L p (kk n 0) (kk n 1) with
    | none=>exact ZLS hL hn.w
    | some x=>exact ZLS hL (ZLu hL p r0 hx).w
   ·split
    ·exact hL.w
    ·exact ZLS hL hn.w
theorem ZM9 {i:Nat} {nums p:List Int} {L:List Zae} (h:ZL5 i nums p L) {x:Zae} (hs:ZMW i x) (hw:NodeW x):ZLt L (x.1,x.2.1,x.2.2.map (atI nums)):=by
 have hq:∀ q∈x.2.2,atI nums q∈nums:=fun q hq=>by
  obtain ⟨a,b⟩:=hs.k q hq;unfold atI;rw [getElem?_eq_getElem (by rw [h.len];omega)];exact getElem_mem _
 have hk:∀ q∈x.2.2.map (atI nums),inR L.length q:=fun q hq'=>by
  obtain ⟨r,hr,rfl⟩:=mem_map.1 hq';exact (h.hb _ (hq r hr)).r
 refine ⟨⟨hw.op,hw.imm,by rw [length_map];exact hw.k,fun q hq'=>ZM5 h.W (hk q hq')⟩,hk,fun m hm=>?_⟩;rw [length_map];exact hs.a m hm
theorem ZL5.step {i:Nat} {nums p:List Int} {L:List Zae} (h:ZL5 i nums p L) (hi:i<=10000) {x:Zae} (hs:ZMW i x) (hw:NodeW x):ZL5 (i+1) (ZLQ p (nums,L) x).1 p (ZLQ p (nums,L) x).2:=by
 have hf:=ZM9 h hs hw;have hr:=ZOy h.W.toPoolH p hf.k hf.a;have hb:L.length < 100000:=by have:=h.sz;omega
 obtain ⟨es,he⟩:=hr.e;have hq:∀ q∈x.2.2,atI nums q∈nums:=fun q hq=>by
  obtain ⟨a,b⟩:=hs.k q hq;unfold atI;rw [getElem?_eq_getElem (by rw [h.len];omega)];exact getElem_mem _
 have hbk:∀ q∈x.2.2.map (atI nums),HB L i q:=fun q hq'=>by
  obtain ⟨r,hr,rfl⟩:=mem_map.1 hq';exact h.hb _ (hq r hr)
 have hz:ImZ (x.1,x.2.1,x.2.2.map (atI nums)):=ZO6 hs.i;have hn:=hr.n;refine ⟨?_,⟨hr.p,ZP2 h.W hb hf,?_⟩,?_,ZNI h.W.toPoolH hf hz h.z,ZMU h.W.toPoolH h.irr hf.k hf.a,ZM2 h.nd _,fun q hq'=>?_⟩
 ·show (nums++[_]).length=i+1;rw [length_append,h.len];rfl
 ·have:=h.sz;show (inM p L (x.1,x.2.1,x.2.2.map (atI nums))).2.length<=100000;omega
 ·have:=h.sz;show (inM p L (x.1,x.2.1,x.2.2.map (atI nums))).2.length<=2 * (i+1);omega
 ·rcases mem_append.1 hq' with hq' | hq'
  ·show HB (inM p L _).2 (i+1) q;rw [he];exact ((h.hb q hq').app es).mono (by omega)
  ·rw [mem_singleton.1 hq'];exact ZOz h.W.toPoolH p hbk hf.a
theorem ZL5.zero (p:List Int):ZL5 0 [] p []:=⟨rfl,⟨PoolH.nil,(fun x h=>by cases h),by simp⟩,by simp,(fun x h=>by cases h),(fun x h=>by cases h),List.nodup_nil,fun q h=>by cases h⟩
theorem ZLb {p:List Int} {l:List Zae} {i:Nat} {x:Zae} (hx:l[i]?=some x):ZK7 p (l.take (i+1))=ZLQ p (ZK7 p (l.take i)) x:=by
 unfold ZK7;rw [take_add_one,hx,List.foldl_append];rfl
def ZO7 (l:List Zae):Prop:=∀ (i:Nat) x,l[i]?=some x->ZMW i x
theorem ZLw {p:List Int} {l:List Zae} (hs:ZO7 l) (hw:∀ x∈l,NodeW x) (hl:l.length≤10000):∀ i≤l.length,ZL5 i (ZK7 p (l.take i)).1 p (ZK7 p (l.take i)).2
 | 0,_=>by
  have:ZK7 p (l.take 0)=([],[]):=by simp [ZK7]
  rw [this];exact ZL5.zero p
 | i+1,hi=>by
  obtain ⟨x,hx⟩:=ZeS (l:=l) (i:=i) (by omega);rw [ZLb hx];exact (ZLw hs hw hl i (by omega)).step (by omega) (hs i x hx) (hw x (mem_of_getElem? hx))
end Go.Dat
namespace Go.Dat
open Go.Eng
def negs (num:List Int):Nat:=num.countP fun x=>decide (x < 0)
theorem ZMX {num:List Int} {i:Int} (hi:inR num.length i) (h:atI num i < 0) {v:Int} (hv:0<=v):negs (Zaq num i v)+1=negs num:=by
 have h1:=hi.1;have h2:=hi.2
 have hl:i.toNat < num.length:=by omega
 have hx:num[i.toNat] < 0:=by unfold atI at h;rw [getElem?_eq_getElem hl] at h;exact h
 have hp:0 < negs num:=List.countP_pos_iff.2 ⟨_,getElem_mem hl,by simpa using hx⟩;unfold negs at hp |-
 unfold Zaq;rw [List.countP_set hl];simp only [hx,decide_true,if_true];rw [if_neg (by simpa using hv)];omega
mutual
theorem Z2p.negs {L:List Zae} (hL:PoolH L):∀ {i:Int} {num:List Int} {out:List Zae} {num':List Int} {out':List Zae},Z2p L i num out num' out'->inR L.length i->num.length=L.length->out'.length+Go.Dat.negs num'=out.length+Go.Dat.negs num
 | i,num,out,_,_,.old h,hi,hn=>rfl
 | i,num,out,_,_,.new (num':=num') (out':=out') (ks:=ks) h k,hi,hn=>by
  have hk:∀ q∈(nA L i).2.2,inR L.length q/\q<=i - 1:=fun q hq=>by
   have:=hL.k _ _ (ZKS hi) q hq;have h1:=hi.1;have h2:=hi.2
   exact ⟨⟨this.1,by omega⟩,by omega⟩
  have kp:=ZKG.kp hL (i - 1) k hk hn;have ih:=ZKG.negs hL k (fun q hq=>(hk q hq).1) hn;have hneg:atI num' i < 0:=by rw [kp.above i (by omega)];exact h
  have:=ZMX (num:=num') (i:=i) (by rw [kp.len];exact hi) hneg (v:=(out'.length:Int)) (by omega);simp only [length_append,List.length_singleton];omega
theorem ZKG.negs {L:List Zae} (hL:PoolH L):∀ {qs:List Int} {num:List Int} {out:List Zae} {ks:List Int} {num':List Int} {out':List Zae},ZKG L qs num out ks num' out'->(∀ q∈qs,inR L.length q)->num.length=L.length->out'.length+Go.Dat.negs num'=out.length+Go.Dat.negs num
 | _,num,out,_,_,_,.nil,_,hn=>rfl
 | _,num,out,_,_,_,.cons (q:=q) (qs:=qs) (num1:=num1) h k,hq,hn=>by
  have q0:=hq q (by simp);have kp1:=(Z2p.kp hL h q0 hn).1;have a:=Z2p.negs hL h q0 hn;have b:=ZKG.negs hL k (fun x hx=>hq x (by simp [hx])) kp1.len;omega
end
theorem ZKG.klen {L:List Zae}:∀ {qs:List Int} {num:List Int} {out:List Zae} {ks:List Int} {num':List Int} {out':List Zae},ZKG L qs num out ks num' out'->ks.length=qs.length
 | _,_,_,_,_,_,.nil=>rfl
 | _,_,_,_,_,_,.cons h k=>by rw [length_cons,length_cons,ZKG.klen k]
section
variable {L:List Zae} (hL:ZLs L) (p:List Int)
include hL
theorem ZMA (idx:List (ByteArray×Int)):∀ (fuel b:Nat),b<=fuel->∀ (i:Int),HB L b i->∀ (num:List Int) (out:List Zae),num.length=L.length->out.length+negs num<=200000->Ret (N48 fuel i num p out L idx) fun r=>∃ num' out',Z2p L i num out num' out'/\r=(num',p,out',L,idx)
 | 0,b,hb,i,hi,num,out,hn,hs=>by cases hi;omega
 | fuel+1,b,hb,i,hi,num,out,hn,hs=>by
  have hr:=hi.r;have hrn:inR num.length i:=by rw [hn];exact hr
  have hk:∀ q∈(nA L i).2.2,inR L.length q/\q<=i - 1:=fun q hq=>by
   have:=hL.k _ _ (ZKS hr) q hq;have h1:=hr.1;have h2:=hr.2
   exact ⟨⟨this.1,by omega⟩,by omega⟩
  have hkw:=(hL.w _ (ZKF hr)).k;show Ret (G48 (N48 fuel) i num p out L idx) _;simp only [G48,ZaB hrn,ZK8 hr,wq,reduceCtorEq];refine ⟨fun h=>⟨num,out,.old h,rfl⟩,fun h=>?_⟩;refine Zac (fun q:Int×List Int×List Int×List Int×List Zae×List Zae×List (ByteArray×Int)=>∃ (k:Nat) (ks num1:List Int) (out1:List Zae),k<=(nA L i).2.2.length/\ZKG L ((nA L i).2.2.take k) num out ks num1 out1/\q=((k:Int),ks,num1,p,out1,L,idx)) (fun q=>(nA L i).2.2.length - q.1.toNat) ?_ _ ⟨0,[],num,out,by omega,by simpa using ZKG.nil,rfl⟩;rintro _ ⟨k,ks,num1,out1,hk1,hv,rfl⟩;have hw:=Zab k (by omega);have kp1:=ZKG.kp hL.toPoolH (i - 1) hv (fun q hq=>hk q (mem_of_mem_take hq)) hn;have ng1:=ZKG.negs hL.toPoolH hv (fun q hq=>(hk q (mem_of_mem_take hq)).1) hn;have kl:=hv.klen;rw [length_take] at kl;simp only [ZIM,wq,reduceCtorEq,hw];refine ⟨fun hlt=>Zaj (by omega) hlt fun y hy hym=>?_,fun hge=>?_⟩
  ·rw [Zax] at hy;obtain ⟨c,rfl,hc⟩:=hi.kid hym;refine Ret.mono (ZMA idx fuel c (by omega) y hc num1 out1 kp1.len (by omega)) fun r _ ⟨num2,out2,hv2,hr2⟩=>?_;subst hr2;obtain ⟨kp2,p2⟩:=Z2p.kp hL.toPoolH hv2 hc.r kp1.len;have g2:gI num2 y=some (atI num2 y):=ZaB (by rw [kp2.len];exact hc.r);simp only [g2,wq,reduceCtorEq];refine ⟨fun _=>⟨⟨k+1,ks++[atI num2 y],num2,out2,by omega,?_,rfl⟩,by omega⟩,fun h=>absurd h (by simp only [length_cons,length_nil];omega)⟩;rw [take_add_one,hy];exact hv.snoc hv2
  ·have hkk:k=(nA L i).2.2.length:=by omega
   subst hkk;rw [List.take_length] at hv;have g2:gI num1 i=some (atI num1 i):=ZaB (by rw [kp1.len];exact hr);simp only [g2,wq,reduceCtorEq];refine ⟨fun _=>⟨_,_,.new (by omega) hv,rfl⟩,fun h=>absurd h (by simp only [length_cons,length_nil];omega)⟩
theorem Z6L (idx:List (ByteArray×Int)) {b:Nat} (hb:b<=3000) {v s:Int} (hv:HB L b v) (hs:HB L b s):Ret (F23 v s p L idx) fun r=>ZNv L v s r.2.2 r.1 r.2.1:=by
 have hn:=hL.n;simp only [F23,wq,reduceCtorEq];refine ⟨fun _=>?_,fun h=>absurd h (by omega)⟩;refine Zac (fun q:Int×List Int×List Int×List Zae×List (ByteArray×Int)=>∃ (k:Nat) (num:List Int),k<=L.length/\num.length=L.length/\(∀ j:Nat,j < k->num[j]?=some (-1))/\q=((k:Int),p,num,L,idx)) (fun q=>L.length - q.1.toNat) ?_ _ ⟨0,_,by omega,by simp,(fun j hj=>by omega),rfl⟩;rintro _ ⟨k,num,hk,hl,hj,rfl⟩;have hw:=Zab k (by omega);simp only [ZyL,wq,reduceCtorEq,hw,List.length_replicate,Int.toNat_natCast];refine ⟨fun hlt=>?_,fun hge=>?_⟩
 ·have hr:inR num.length (k:Int):=⟨by omega,by omega⟩
  simp only [ZaB hr,wq,reduceCtorEq];refine ⟨⟨k+1,Zaq num (k:Int) (-1),by omega,by rw [Zay];exact hl,fun j h=>?_,rfl⟩,by omega⟩;unfold Zaq;rw [Int.toNat_natCast,List.getElem?_set];by_cases e:k=j
  ·rw [if_pos e,if_pos (by omega)]
  ·rw [if_neg e];exact hj j (by omega)
 ·have hnum:num=replicate L.length (-1):=by
   refine List.ext_getElem? fun j=>?_;by_cases h:j < L.length
   ·rw [hj j (by omega),List.getElem?_replicate,if_pos h]
   ·rw [List.getElem?_eq_none (by omega),List.getElem?_eq_none (by simp;omega)]
  subst hnum;have c0:negs (replicate L.length (-1))<=L.length:=by
   unfold negs;have:=List.countP_le_length (p:=fun x:Int=>decide (x < 0)) (l:=replicate L.length (-1));simpa using this
  refine Ret.mono (ZMA hL p idx 3000 b hb v hv (replicate L.length (-1)) [] (by simp) (by simp only [length_nil];omega)) fun r _ ⟨num1,out1,h1,e1⟩=>?_;subst e1;obtain ⟨kp1,p1⟩:=Z2p.kp hL.toPoolH h1 hv.r (by simp);have n1:=Z2p.negs hL.toPoolH h1 hv.r (by simp);simp only [length_nil] at n1;refine Ret.mono (ZMA hL p idx 3000 b hb s hs num1 out1 kp1.len (by omega)) fun r _ ⟨num2,out2,h2,e2⟩=>?_;subst e2;obtain ⟨kp2,p2⟩:=Z2p.kp hL.toPoolH h2 hs.r kp1.len;have gv:gI num2 v=some (atI num2 v):=ZaB (by rw [kp2.len];exact hv.r);have gs:gI num2 s=some (atI num2 s):=ZaB (by rw [kp2.len];exact hs.r);simp only [gv,gs,wq,reduceCtorEq];exact ⟨num1,out1,num2,h1,h2,rfl,rfl⟩
end
end Go.Dat
