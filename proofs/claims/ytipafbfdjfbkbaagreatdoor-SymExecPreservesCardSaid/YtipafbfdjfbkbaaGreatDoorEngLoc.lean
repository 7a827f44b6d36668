import Derived.Test.YtipafbfdjfbkbaaGreatDoorEngChain
set_option linter.unusedSectionVars false
open Option.some (injEq)
namespace Go.Eng
variable [Gl] [Mx]
theorem Zdp (old h:Tr AB):∀ (ns:List Nat) (n:Nat),(back old h ns).get n=if n∈ns then old.get n else h.get n
 | [],n=>by simp [back]
 | m::ns,n=>by
  show Tr.getP (Zf6 n) ((back old h ns).setP (old.get m) (Zf6 m))=_;rw [Tr.getP_setP];by_cases e:n=m
  ·subst e;simp
  ·rw [if_neg (fun h=>e (Zfl h))];have:=Zdp old h ns n;unfold Tr.get at this;rw [this];simp [e,Tr.get]
theorem Zce (h:Tr AB):∀ (ns:List Nat) (n:Nat),(ZkE h ns).get n=if n∈ns then none else h.get n
 | [],n=>by simp [ZkE]
 | m::ns,n=>by
  simp only [ZkE,Tr.get_del,Zce h ns n,List.mem_cons];by_cases e:n=m<;>simp [e]
theorem ZaL (h:Tr AB):∀ (ns:List Nat) (n:Nat),(Zbp h ns).get n=if n∈ns then h.get n else none
 | [],n=>by simp [Zbp]
 | m::ns,n=>by
  unfold Zbp;split
  ·rename_i b hb;rw [Tr.get_put,ZaL h ns n];by_cases e:n=m
   ·subst e;simp [hb]
   ·simp [e]
  ·rename_i hb;rw [ZaL h ns n];by_cases e:n=m
   ·subst e;simp [hb]
   ·simp [e]
section
variable {P:Program} {ops:Array Oper} {pol:FuncId->Bool} {rec:ZbL}
theorem Zno {o:Op} {T:Tm} {S S':St} {v:AV} (hc:cls pol o=.pure) (h:(aOp pol P o).f rec T S=some (v,S')) (m:Nat):S'=S/\(aOp pol P o).f rec T ⟨.lf,m⟩=some (v,⟨.lf,m⟩):=by
 cases o<;>simp only [cls,reduceCtorEq] at hc
 case pick c a b=>
  simp only [aOp,Zaa] at h |-
  obtain ⟨x,hx,h⟩:=h;split at h
  ·simp only [Zaa,injEq,Prod.mk.injEq] at h;obtain ⟨y,hy,rfl,rfl⟩:=h;exact ⟨rfl,_,hx,by simp [Option.ob,hy]⟩
  ·simp only [Zaa,injEq,Prod.mk.injEq] at h;obtain ⟨y,hy,rfl,rfl⟩:=h;exact ⟨rfl,_,hx,by simp [Option.ob,hy]⟩
  ·cases h
 case nilCheck x=>
  simp only [aOp,Zaa] at h |-
  obtain ⟨u,hu,h⟩:=h;split at h
  ·cases h
  ·cases h
  ·cases h
  ·rename_i n1 n2 n3;cases h;refine ⟨rfl,v,hu,?_⟩;cases v<;>first | rfl | (exfalso;first | exact n1 rfl | exact n2 rfl | exact n3 rfl)
 case makeInterface t x=>
  simp only [aOp,Zaa] at h |-
  obtain ⟨e,he,u,hu,h⟩:=h;split at h
  ·cases h
  ·rename_i hni;cases h;refine ⟨rfl,e,he,u,hu,?_⟩;split
   ·rename_i hi;exact absurd hi (hni _)
   ·rfl
 case makeFunc fn f c=>
  simp only [aOp] at h |-
  split at h
  ·simp only [Zaa,injEq,Prod.mk.injEq] at h;obtain ⟨a,ha,b,hb,rfl,rfl⟩:=h;exact ⟨rfl,by simp [Option.ob,ha,hb]⟩
  ·cases h
 case extract t i=>
  simp only [aOp,Zaa] at h |-
  obtain ⟨u,hu,h⟩:=h;split at h
  ·simp only [Zaa,injEq,Prod.mk.injEq] at h;obtain ⟨y,hy,rfl,rfl⟩:=h;exact ⟨rfl,_,hu,by simp [Option.ob,hy]⟩
  ·cases h
 case call c=>
  have key:∀ b,c.callee=.builtin b->(b=.max\/b=.min)->S'=S/\(aOp pol P (.call c)).f rec T ⟨.lf,m⟩=some (v,⟨.lf,m⟩):=by
   intro b hb hm;simp only [aOp,hb,Zaa] at h |-
   obtain ⟨args,ha,h⟩:=h;rcases hm with rfl | rfl
   ·simp only [Zbn,Zaa,injEq,Prod.mk.injEq] at h;obtain ⟨y,hy,rfl,rfl⟩:=h;exact ⟨rfl,args,ha,by simp [Zbn,Option.ob,hy]⟩
   ·simp only [Zbn,Zaa,injEq,Prod.mk.injEq] at h;obtain ⟨y,hy,rfl,rfl⟩:=h;exact ⟨rfl,args,ha,by simp [Zbn,Option.ob,hy]⟩
  split at hc
  ·cases hc
  ·rename_i hb;exact key _ hb (.inl rfl)
  ·rename_i hb;exact key _ hb (.inr rfl)
  ·cases hc
  ·rename_i f _;cases hp:ZvS pol f<;>simp [hp] at hc
  ·cases hc
 all_goals
  simp only [aOp,Zaa,injEq,Prod.mk.injEq] at h
  first
   | (obtain ⟨x1,h1,rfl,rfl⟩:=h;exact ⟨rfl,by simp only [aOp,h1];rfl⟩)
   | (obtain ⟨x1,h1,x2,h2,rfl,rfl⟩:=h;exact ⟨rfl,by simp only [aOp,h1,Zaa];exact ⟨_,rfl,_,h2,rfl⟩⟩)
   | (obtain ⟨x1,h1,x2,h2,x3,h3,rfl,rfl⟩:=h;exact ⟨rfl,by simp only [aOp,h1,h2,Zaa];exact ⟨_,rfl,_,rfl,_,h3,rfl⟩⟩)
theorem ZfD {H H':Tr AB} {m m' n:Nat} (h:H.get n=H'.get n):ZcK ⟨H,m⟩ n=ZcK ⟨H',m'⟩ n:=by simp only [ZcK,h]
theorem ZdK {H H':Tr AB} {m m' n:Nat} (h:H.get n=H'.get n):ZaO ⟨H,m⟩ n=ZaO ⟨H',m'⟩ n:=by simp only [ZaO,h]
theorem ZkR {e:TE} {H H':Tr AB} {m m':Nat} {p u:AV} (h:∀ n∈Za8 p,H.get n=H'.get n) (hl:Zd6 e ⟨H,m⟩ p=some u):Zd6 e ⟨H',m'⟩ p=some u:=by
 unfold Zd6 at hl |-
 split at hl
 ·rename_i n off;rw [ZfD (H':=H') (m':=m') (h n (by simp [Za8]))] at hl;exact hl
 ·exact hl
 ·cases hl
theorem Ziw {t:TypeId} {k u:AV} {ok:Bool} {H H':Tr AB} {m m':Nat} {p:AV} (h:∀ n∈Za8 p,H.get n=H'.get n) (hl:Zdk P ⟨H,m⟩ t p k ok=some u):Zdk P ⟨H',m'⟩ t p k ok=some u:=by
 simp only [Zdk,Zaa] at hl |-
 obtain ⟨e,he,ke,hke,kt,hkt,et,het,x,hx,es,hes,r,hr,hl⟩:=hl;refine ⟨e,he,ke,hke,kt,hkt,et,het,x,hx,es,?_,r,hr,hl⟩;split at hes
 ·exact hes
 ·rename_i n;simp only [Zaa] at hes |-
  obtain ⟨c,hc,hes⟩:=hes;exact ⟨c,by rw [<-ZdK (h n (by simp [Za8]))];exact hc,hes⟩
 ·cases hes
theorem ZkS {s d:TypeId} {H H':Tr AB} {m m':Nat} {p u:AV} (h:∀ n∈Za8 p,H.get n=H'.get n) (hl:Zfm P ⟨H,m⟩ s d p=some u):Zfm P ⟨H',m'⟩ s d p=some u:=by
 simp only [Zfm,Zaa] at hl |-
 obtain ⟨s',hs,d',hd,hl⟩:=hl;refine ⟨s',hs,d',hd,?_⟩;split at hl
 ·exact hl
 ·exact hl
 ·rename_i e h1 h2;simp only [Zaa] at hl |-
  obtain ⟨g,hg,hl⟩:=hl;refine ⟨g,hg,?_⟩;split at hl
  ·exact hl
  ·rename_i b off len c z h3;simp only [Zaa] at hl |-
   obtain ⟨cs,hcs,hl⟩:=hl;refine ⟨cs,?_,hl⟩;simp only [Zl0] at hcs |-
   rw [<-ZfD (h b (by simp [Za8]))];exact hcs
  ·rename_i h3;simp only [Zaa] at hl |-
   obtain ⟨cs,hcs,hl⟩:=hl;exact ⟨cs,hcs,hl⟩
  ·cases hl
 ·cases hl
theorem Znp {t:TypeId} {H H':Tr AB} {m m':Nat} {p u:AV} (h:∀ n,p=.map n->H.get n=H'.get n) (hl:Zjl P ⟨H,m⟩ t p=some u):Zjl P ⟨H',m'⟩ t p=some u:=by
 simp only [Zjl,Zaa] at hl |-
 obtain ⟨e,he,hl⟩:=hl;refine ⟨e,he,?_⟩;split at hl
 all_goals first | (cases hl;done) | skip
 case h_7 k el n h1=>
  simp only [Zaa] at hl |-
  obtain ⟨c,hc,hl⟩:=hl;exact ⟨c,by rw [<-ZdK (h n rfl)];exact hc,hl⟩
 all_goals exact hl
theorem ZhC {o:Op} {T:Tm} {H H':Tr AB} {m m':Nat} {S':St} {v:AV} (hc:cls pol o=.read) (h:(aOp pol P o).f rec T ⟨H,m⟩=some (v,S')) (hh:∀ n∈Zdg T o,H.get n=H'.get n) :
 S'=⟨H,m⟩/\(aOp pol P o).f rec T ⟨H',m'⟩=some (v,⟨H',m'⟩):=by
 cases o<;>simp only [cls,reduceCtorEq] at hc
 case load t p=>
  simp only [aOp] at h |-
  split at h
  ·rename_i e he;simp only [Zaa,injEq,Prod.mk.injEq] at h |-
   obtain ⟨q,hq,u,hu,rfl,rfl⟩:=h;exact ⟨rfl,q,hq,u,ZkR (fun n hn=>hh n (by simp only [Zdg,hq];exact hn)) hu,rfl,trivial⟩
  ·cases h
 case convert s d x=>
  simp only [aOp,Zaa,injEq,Prod.mk.injEq] at h |-
  obtain ⟨q,hq,u,hu,rfl,rfl⟩:=h;exact ⟨rfl,q,hq,u,ZkS (fun n hn=>hh n (by simp only [Zdg,hq];exact hn)) hu,rfl,trivial⟩
 case lookup t x i ok=>
  simp only [aOp,Zaa,injEq,Prod.mk.injEq] at h |-
  obtain ⟨q,hq,k,hk,u,hu,rfl,rfl⟩:=h;exact ⟨rfl,q,hq,k,hk,u,Ziw (fun n hn=>hh n (by simp only [Zdg,hq];exact hn)) hu,rfl,trivial⟩
 case call c=>
  split at hc
  ·rename_i hcal;simp only [aOp,hcal,Zaa] at h |-
   obtain ⟨args,ha,h⟩:=h;unfold Zbn at h;split at h
   ·rename_i x t ts _ hts;simp only [Zaa,injEq,Prod.mk.injEq] at h;obtain ⟨z,hz,rfl,rfl⟩:=h;refine ⟨rfl,[x],ha,?_⟩;simp only [Zbn,hts,Zaa,injEq,Prod.mk.injEq];refine ⟨z,Znp (fun n hn=>hh n ?_) hz,rfl,trivial⟩;subst hn
    match hargs:c.args.toList,ha with
    | [],ha=>simp [evs] at ha
    | [y],ha=>
     simp only [evs,Zaa,injEq] at ha;obtain ⟨u,hu,us,rfl,hus⟩:=ha;cases hus;simp [Zdg,hargs,hu]
    | _::_::_,ha=>
     simp only [evs,Zaa,injEq] at ha;obtain ⟨u,hu,us,⟨u2,_,us2,_,rfl⟩,hus⟩:=ha;cases hus
   all_goals first | (cases h;done) | contradiction
  ·cases hc
  ·cases hc
  ·cases hc
  ·rename_i f _;cases hp:ZvS pol f<;>simp [hp] at hc
  ·cases hc
theorem ZqT {o:Op} {T:Tm} {S:St} (hc:cls pol o=.read) (pol':FuncId->Bool) (rec':ZbL):(aOp pol P o).f rec T S=(aOp pol' P o).f rec' T S:=by
 cases o<;>simp only [cls,reduceCtorEq] at hc
 case load t p=>simp only [aOp];split<;>rfl
 case convert=>rfl
 case lookup=>rfl
 case call c=>
  cases hcal:c.callee<;>rw [hcal] at hc
  ·rename_i f;cases hp:ZvS pol f<;>simp [hp] at hc
  ·cases hc
  ·simp only [aOp,hcal]
theorem Zfs (v:AV):Za8 v=[]\/∃ n,Za8 v=[n]:=by cases v<;>simp [Za8]
theorem ZqU (T:Tm) (o:Op):Zdg T o=[]\/∃ n,Zdg T o=[n]:=by
 unfold Zdg;split
 ·split
  ·exact Zfs _
  ·exact .inl rfl
 ·split
  ·exact Zfs _
  ·exact .inl rfl
 ·split
  ·exact Zfs _
  ·exact .inl rfl
 ·split
  ·split
   ·exact .inr ⟨_,rfl⟩
   ·exact .inl rfl
  ·exact .inl rfl
 ·exact .inl rfl
theorem ZkT {o:Op} {T:Tm} {S S':St} {v:AV} (hc:cls pol o=.alloc) (hb:ZGc o=false) (h:(aOp pol P o).f rec T S=some (v,S')) :
 ∃ b,S'=ZcW S b/\(aOp pol P o).f rec T ⟨.lf,S.next⟩=some (v,ZcW ⟨.lf,S.next⟩ b):=by
 cases o<;>simp only [cls,reduceCtorEq] at hc
 case alloc t=>
  simp only [aOp] at h |-
  split at h
  ·cases har:Mx.ar t<;>rw [har] at h
   ·cases h;exact ⟨_,rfl,rfl⟩
   ·rename_i e he;have h:Zcw P e S=some (v,S'):=h;show ∃ b,S'=ZcW S b/\Zcw P e ⟨.lf,S.next⟩=some (v,ZcW ⟨.lf,S.next⟩ b);unfold Zcw at h |-
    split at h
    ·simp only [Zaa,injEq,Prod.mk.injEq] at h;obtain ⟨g,hg,u,hu,rfl,rfl⟩:=h;exact ⟨_,rfl,by rw [hg];show (chk (e.zero.cells.length.beq (_ * g.size))).ob _=_;rw [hu];rfl⟩
    ·cases h
  ·cases h
 case box t x=>
  simp only [aOp] at h |-
  split at h
  ·simp only [Zaa,injEq,Prod.mk.injEq] at h;obtain ⟨u,hu,rfl,rfl⟩:=h;exact ⟨_,rfl,by simp [Option.ob,hu]⟩
  ·cases h
 case makeMap t r=>
  simp only [aOp,Zaa,injEq,Prod.mk.injEq] at h |-
  obtain ⟨u,hu,rfl,rfl⟩:=h;exact ⟨_,rfl,u,hu,rfl,rfl⟩
 case buildSlice t n ps=>
  simp only [aOp,Zaa] at h |-
  obtain ⟨vs,hvs,h⟩:=h;simp only [ZGc] at hb;simp only [hb,Zan] at h |-
  unfold Zb4 at h |-
  simp only [Zaa] at h |-
  obtain ⟨e,he,el,hel,g,hg,u,hu,r,hr,h⟩:=h;cases h;exact ⟨_,rfl,vs,hvs,e,he,el,hel,g,hg,u,hu,r,hr,rfl⟩
 case makeSlice t l c=>
  simp only [aOp,Zaa] at h |-
  obtain ⟨x,hx,y,hy,h⟩:=h;unfold Zb8 at h |-
  simp only [Zaa] at h |-
  obtain ⟨l',hl,c',hc',e,he,el,hel,g,hg,u,hu,h⟩:=h;cases h;exact ⟨_,rfl,x,hx,y,hy,l',hl,c',hc',e,he,el,hel,g,hg,u,hu,rfl⟩
 case call c=>
  split at hc
  all_goals first | cases hc | (rename_i f _;cases hp:ZvS pol f<;>simp [hp] at hc)
end
end Go.Eng
