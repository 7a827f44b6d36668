import Derived.Test.YtipafbfdjfbkbaaGreatDoorE2Sound
namespace Go.Eng
set_option linter.unusedVariables false
set_option linter.unusedSectionVars false
section
variable [Gl] [Mx] {P:Program} {K:ZcY} {E:Zcn} {F:Fr} {a:Nat->AV} {fp:Nat->Nat->Prop} {s s0:S2} {T:Tm} {S S':St} {r:Rn}
theorem ZsK {m m':Nat} {a':Nat->AV} {v:V2} {u:AV} (hd:v.isD=true) (h:VR2 m a v u):VR2 m' a' v u:=by
 cases h<;>first | (cases hd;done) | skip
 case dat h=>exact .dat h
 case fpe=>exact .fpe
 case nils=>exact .nils
 case nilp=>exact .nilp
theorem Zpj {m m':Nat} {a':Nat->AV}:∀ {l:List V2} {u:List AV},l.all V2.isD=true->Zbl m a l u->Zbl m' a' l u
 | [],u,_,h=>by cases h;exact .nil
 | v::l,u,hd,h=>by
  rw [List.all_cons,Bool.and_eq_true] at hd;cases h with | cons h i=>exact .cons (ZsK hd.1 h) (Zpj hd.2 i)
def Z0K (s:S2) (ks:List Tmp) (c:Nat):Prop:=∃ k∈ks,∃ off l,s.T.get k=some (.bx c off)/\s.H.get c=some (.box l false)/\l.all V2.isD=true
theorem Zmf:∀ {ks:List Tmp} {k:Tmp} {v:V2},(ZlN s ks).get k=some v->k∈ks/\s.T.get k=some v/\Zri s.H v=true
 | [],k,v,h=>by simp [ZlN] at h
 | q::ks,k,v,h=>by
  have low:(ZlN s ks).get k=some v->k∈q::ks/\s.T.get k=some v/\Zri s.H v=true:=fun h=>by
   obtain ⟨h1,h2⟩:=Zmf h;exact ⟨List.mem_cons_of_mem _ h1,h2⟩
  unfold ZlN at h;split at h
  ·rename_i w hw;split at h
   ·rename_i hf;rw [Tr.get_put] at h;split at h
    ·rename_i e;cases h;subst e;exact ⟨by simp,hw,hf⟩
    ·exact low h
   ·exact low h
  ·exact low h
theorem ZbS:∀ {ks:List Tmp} {c:Nat} {ck:C2},(ZjR s ks).get c=some ck->Z0K s ks c/\s.H.get c=some ck/\ck.w=false
 | [],c,ck,h=>by simp [ZjR] at h
 | q::ks,c,ck,h=>by
  have low:(ZjR s ks).get c=some ck->Z0K s (q::ks) c/\s.H.get c=some ck/\ck.w=false:=fun h=>by
   obtain ⟨⟨k,h1,h2⟩,h3⟩:=ZbS h;exact ⟨⟨k,List.mem_cons_of_mem _ h1,h2⟩,h3⟩
  unfold ZjR at h;split at h
  ·rename_i d off hd;split at h
   ·rename_i l hl;split at h
    ·rename_i hD;rw [Tr.get_put] at h;split at h
     ·rename_i e;cases h;subst e;exact ⟨⟨q,by simp,off,l,hd,hl,hD⟩,hl,rfl⟩
     ·exact low h
    ·exact low h
   ·exact low h
  ·exact low h
def Fr.fix (F:Fr) (s:S2) (fp:Nat->Nat->Prop) (ks:List Tmp) (S:St):Fr:=⟨F.ex,fun n=>F.ro n\/∃ c,Z0K s ks c/\fp c n,S.heap,F.pn⟩
theorem Rel.fix (R:Rel F a fp s T S) (ks:List Tmp):Rel (F.fix s fp ks S) a fp s T S:=
 {R with
  fex:=fun n hn=>⟨rfl,(R.fex n hn).2⟩
  fro:=by
   rintro n (hn | ⟨c,⟨k,_,off,l,_,hl,_⟩,hf⟩)
   ·exact ⟨rfl,(R.fro n hn).2⟩
   ·exact ⟨rfl,R.lt c _ hl n hf⟩
  dro:=by
   intro c ck h hw n hf;rintro (he | ⟨d,⟨k,_,off,l,_,hl,_⟩,hp⟩)
   ·exact R.dro c ck h hw n hf he
   ·have hne:c≠d:=by
     intro e;subst e;rw [h] at hl;cases hl;cases hw
    exact R.dis c d ck _ h hl hne (.inl hw) n hf hp }
theorem Rel.unfix (R:Rel F a fp s T S) {ks:List Tmp} {a':Nat->AV} {fp':Nat->Nat->Prop} {s':S2} {T':Tm} {S':St} (R':Rel (F.fix s fp ks S) a' fp' s' T' S') (hn:S.next<=S'.next):Rel F a' fp' s' T' S':=
 {R' with
  fex:=fun n h=>⟨by rw [(R'.fex n h).1];exact (R.fex n h).1,(R'.fex n h).2⟩
  fro:=fun n h=>⟨by rw [(R'.fro n (.inl h)).1];exact (R.fro n h).1,(R'.fro n (.inl h)).2⟩
  dex:=R'.dex
  dro:=fun c ck h hw n hf he=>R'.dro c ck h hw n hf (.inl he) }
theorem Zmg (R:Rel F a fp s T S) {sh:Sh} (hok:sh.ok=true) {a':Nat->AV} {fp':Nat->Nat->Prop} {s':S2} {T':Tm} {S':St} (R':Rel (F.fix s fp sh.fixed S) a' fp' s' T' S')
 (hT:∀ k∈sh.fixed,T'.get k=T.get k) (hn:S.next<=S'.next) {x:sh.den} {r2:Rn} (hp:ZvT sh s'=some (x,r2)):∃ a'' fp'',Rel (F.fix s fp sh.fixed S) a'' fp'' (emb sh s x) T' S' /\
  (∀ j d,r2.get j=some (.ck d)->a'' (s.nx+j)=a' d)/\∀ c ck n,s.nx<=c->(emb sh s x).H.get c=some ck->fp'' c n->∃ d ckd,r2.get (c - s.nx)=some (.ck d)/\s'.H.get d=some ckd/\(ck.w=true->ckd.w=true)/\fp' d n:=by
 simp only [Sh.ok,Bool.and_eq_true] at hok;simp only [ZvT,Zaa,Zak,Option.some.injEq,Prod.mk.injEq] at hp;obtain ⟨⟨d1,r1⟩,h1,⟨d2,r2'⟩,h2,hd,x',hpk,rfl,rfl⟩:=hp;have hun:=ZgI _ _ _ hpk;obtain ⟨av1,A1,E1,k1⟩:=Zph (n:=sh.chunks.length) (T:=T') R'.slots sh.slots h1 hok.1 (av:=fun _=>.nils) (fun c=>by simp);obtain ⟨av2,A2,E2,k2⟩:=Zpi (n:=sh.chunks.length) R'.chunks sh.chunks 0 h2 hok.2 A1
 let A:Nat->AV:=fun c=>if c < s.nx then a c else av2 (c - s.nx)
 let fq:Nat->Nat->Prop:=fun c=>if c < s.nx then fp c else match r2'.get (c - s.nx) with
  | some (.ck d)=>fp' d
  | _=>fun _=>False
 have hFin:Fin (fun c=>s.nx+c) A r2' av2:=by
  intro c _;show (if s.nx+c < s.nx then _ else _)=_;rw [if_neg (by omega),Nat.add_sub_cancel_left]
 have hA:∀ c,c < s.nx->A c=a c:=fun c hc=>if_pos hc
 -- the boxes that stay
 have hfixc:∀ c ck,(ZjR s sh.fixed).get c=some ck->c < s.nx/\Zcr F.pn (s.nx+sh.chunks.length) A S'.heap (fp c) (a c) ck:=by
  intro c ck h;obtain ⟨hB,hg,_⟩:=ZbS h;have hB0:=hB;obtain ⟨k,hk,off,l,_,hl,hD⟩:=hB;rw [hg] at hl;cases hl;refine ⟨R.nx c _ hg,?_⟩;obtain ⟨q,cs,g1,g2,g3,g4,g5⟩:=R.chunks c _ hg;refine ⟨q,cs,g1,g2,?_,Zpj hD g4,g5⟩;show rdB (S'.heap.get q)=_;rw [(R'.fro q (.inr ⟨c,hB0,g2⟩)).1];exact g3
 have hslot0:∀ k v,(ZlN s sh.fixed).get k=some v->∃ u,T'.get k=some u/\VR2 (s.nx+sh.chunks.length) A v u:=by
  intro k v h;obtain ⟨hk,hg,hf⟩:=Zmf h;obtain ⟨u,e1,hu⟩:=R.slots k v hg;refine ⟨u,by rw [hT k hk];exact e1,?_⟩;unfold Zri at hf;split at hf
  ·cases hu with | bx hc hb=>exact .bx (by omega) (by rw [hA _ hc];exact hb)
  ·exact ZsK hf hu
 have q1:=k1 (fun c=>s.nx+c) (s.nx+sh.chunks.length) A (fun c hc=>Nat.add_lt_add_left hc _) (hFin.rext E2) d2 (ZlN s sh.fixed) hslot0;have q2:=k2 (fun c=>s.nx+c) (s.nx+sh.chunks.length) A (fun c hc=>Nat.add_lt_add_left hc _) hFin [] (ZjR s sh.fixed);rw [List.append_nil] at q2;have hemb:emb sh s x'=⟨(ZnM (fun c=>s.nx+c) sh.slots (d1++d2) (ZlN s sh.fixed)).1,(Ze7 (fun c=>s.nx+c) sh.chunks 0 d2 (ZjR s sh.fixed)).1,s.nx+sh.chunks.length⟩:=by
  unfold emb;dsimp only;rw [hun,q1.1]
 rw [hemb]
 -- chunks of the new state
 have hck:∀ c ck,(Ze7 (fun c=>s.nx+c) sh.chunks 0 d2 (ZjR s sh.fixed)).1.get c=some ck->(c < s.nx/\(ZjR s sh.fixed).get c=some ck)\/(∃ j x,c=s.nx+j/\sh.chunks[j]?=some x/\CkJ F.pn s'.H fp' S'.heap r2' (s.nx+sh.chunks.length) A a' j (av2 j) x.w ck):=by
  intro c ck h;rcases q2.2 c ck h with h | ⟨j,y,rfl,_,hy,hj⟩
  ·exact .inl ⟨(hfixc c ck h).1,h⟩
  ·exact .inr ⟨j,y,rfl,by simpa using hy,hj⟩
 have hfq1:∀ c,c < s.nx->fq c=fp c:=fun c hc=>if_pos hc;have hfq2:∀ j,fq (s.nx+j)=match r2'.get j with | some (.ck d)=>fp' d | _=>fun _=>False:=by
  intro j;show (if s.nx+j < s.nx then _ else _)=_;rw [if_neg (by omega),Nat.add_sub_cancel_left]
 -- the footprint of a chunk that the shape makes
 have hfoot:∀ {j:Nat} {w:Bool} {ck:C2} {n:Nat},CkJ F.pn s'.H fp' S'.heap r2' (s.nx+sh.chunks.length) A a' j (av2 j) w ck->fq (s.nx+j) n->∃ d ckd,r2'.get j=some (.ck d)/\s'.H.get d=some ckd/\(ck.w=true->ckd.w=true)/\fp' d n:=by
  intro j w ck n hj hf;rw [hfq2] at hf;obtain ⟨_,hj⟩:=hj;cases hr:r2'.get j with
  | none=>rw [hr] at hj;exact hj.elim
  | some cr=>
   rw [hr] at hj hf;cases cr with
   | ck d=>
    obtain ⟨ckd,g1,g2,_⟩:=hj;exact ⟨d,ckd,rfl,g1,g2,hf⟩
   | nil=>exact hf.elim
   | dl t l=>exact hf.elim
 obtain ⟨_,hdist⟩:=Ze9 hd;refine ⟨A,fq,{ slots:=q1.2,chunks:=?_,dis:=?_,lt:=?_,nx:=?_,fex:=R'.fex,fro:=R'.fro,dex:=?_,dro:=?_ },?_,?_⟩
 ·intro c ck h;rcases hck c ck h with ⟨hc,hg⟩ | ⟨j,y,rfl,hy,hj⟩
  ·rw [hfq1 c hc,hA c hc];exact (hfixc c ck hg).2
  ·rw [hfq2];have hAj:A (s.nx+j)=av2 j\/r2'.get j=none:=by
    cases hr:r2'.get j with
    | none=>exact .inr rfl
    | some cr=>exact .inl (hFin j (by rw [hr];simp))
   obtain ⟨hw,hj⟩:=hj;rcases hAj with hAj | hAj
   ·rw [hAj];cases hr:r2'.get j with
    | none=>rw [hr] at hj;exact hj.elim
    | some cr=>
     rw [hr] at hj;cases cr with
     | ck d=>
      have:=A2 j;rw [hr] at this;have this:av2 j=a' d:=this;rw [this];obtain ⟨ckd,_,_,g⟩:=hj;exact g
     | nil=>exact hj _
     | dl t l=>exact hj.2 _
   ·rw [hAj] at hj;exact hj.elim
 ·intro c c' ck ck' h h' hne hw n hf hf';rcases hck c ck h with ⟨hc,hg⟩ | ⟨j,y,rfl,hy,hj⟩<;>rcases hck c' ck' h' with ⟨hc',hg'⟩ | ⟨j',y',rfl,hy',hj'⟩
  ·rw [(ZbS hg).2.2,(ZbS hg').2.2] at hw;rcases hw with e | e<;>cases e
  ·rw [hfq1 c hc] at hf;have hw':ck'.w=true:=hw.resolve_left (by rw [(ZbS hg).2.2];simp);obtain ⟨d,ckd,_,g1,g2,g3⟩:=hfoot hj' hf';exact R'.dro d ckd g1 (g2 hw') n g3 (.inr ⟨c,(ZbS hg).1,hf⟩)
  ·rw [hfq1 c' hc'] at hf';have hw':ck.w=true:=hw.resolve_right (by rw [(ZbS hg').2.2];simp);obtain ⟨d,ckd,_,g1,g2,g3⟩:=hfoot hj hf;exact R'.dro d ckd g1 (g2 hw') n g3 (.inr ⟨c',(ZbS hg').1,hf'⟩)
  ·obtain ⟨d,ckd,e1,g1,g2,g3⟩:=hfoot hj hf;obtain ⟨d',ckd',e1',g1',g2',g3'⟩:=hfoot hj' hf';by_cases hdd:d=d'
   ·subst hdd;have hjj:j≠j':=fun e=>hne (by rw [e]);have hws:y.w=false/\y'.w=false:=by
     rcases Nat.lt_or_ge j j' with hlt | hge
     ·exact hdist j j' y y' d (Nat.zero_le _) hlt (by simpa using hy) (by simpa using hy') e1 e1'
     ·have:=hdist j' j y' y d (Nat.zero_le _) (by omega) (by simpa using hy') (by simpa using hy) e1' e1;exact ⟨this.2,this.1⟩
    rw [hj.1,hj'.1,hws.1,hws.2] at hw;rcases hw with e | e<;>cases e
   ·exact R'.dis d d' ckd ckd' g1 g1' hdd (hw.imp g2 g2') n g3 g3'
 ·intro c ck h n hf;rcases hck c ck h with ⟨hc,hg⟩ | ⟨j,y,rfl,hy,hj⟩
  ·rw [hfq1 c hc] at hf;exact Nat.lt_of_lt_of_le (R.lt c ck (ZbS hg).2.1 n hf) hn
  ·obtain ⟨d,ckd,_,g1,_,g3⟩:=hfoot hj hf;exact R'.lt d ckd g1 n g3
 ·intro c ck h;show c < s.nx+sh.chunks.length;rcases hck c ck h with ⟨hc,hg⟩ | ⟨j,y,rfl,hy,hj⟩
  ·omega
  ·have:j < sh.chunks.length:=by
    rcases Nat.lt_or_ge j sh.chunks.length with h | h
    ·exact h
    ·rw [List.getElem?_eq_none h] at hy;cases hy
   omega
 ·intro c ck h n hf he;rcases hck c ck h with ⟨hc,hg⟩ | ⟨j,y,rfl,hy,hj⟩
  ·rw [hfq1 c hc] at hf;exact R.dex c ck (ZbS hg).2.1 n hf he
  ·obtain ⟨d,ckd,_,g1,_,g3⟩:=hfoot hj hf;exact R'.dex d ckd g1 n g3 he
 ·intro c ck h hw n hf he;rcases hck c ck h with ⟨hc,hg⟩ | ⟨j,y,rfl,hy,hj⟩
  ·rw [(ZbS hg).2.2] at hw;cases hw
  ·obtain ⟨d,ckd,_,g1,g2,g3⟩:=hfoot hj hf;exact R'.dro d ckd g1 (g2 hw) n g3 he
 ·intro j d hj;rw [hFin j (by rw [hj];simp)];have:=A2 j;rw [hj] at this;exact this
 ·intro c ck n hc h hf;rcases hck c ck h with ⟨hc',_⟩ | ⟨j,y,rfl,hy,hj⟩
  ·omega
  ·rw [Nat.add_sub_cancel_left];exact hfoot hj hf
theorem ZiG (R:Rel F a fp s T S) {sh:Sh} (hok:sh.ok=true) {a':Nat->AV} {fp':Nat->Nat->Prop} {s':S2} {T':Tm} {S':St} (R':Rel (F.fix s fp sh.fixed S) a' fp' s' T' S')
 (hT:∀ k∈sh.fixed,T'.get k=T.get k) (hn:S.next<=S'.next) {x:sh.den} (hp:prj sh s'=some x):∃ a'' fp'',Rel (F.fix s fp sh.fixed S) a'' fp'' (emb sh s x) T' S':=by
 simp only [prj,Zaa,Option.some.injEq] at hp;obtain ⟨⟨x',r2⟩,h1,rfl⟩:=hp;obtain ⟨a'',fp'',h,_⟩:=Zmg R hok R' hT hn h1;exact ⟨a'',fp'',h⟩
end
end Go.Eng
