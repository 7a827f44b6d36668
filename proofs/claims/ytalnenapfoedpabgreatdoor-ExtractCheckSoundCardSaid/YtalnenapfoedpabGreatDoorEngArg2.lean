import Derived.Test.YtalnenapfoedpabGreatDoorEngArg
namespace Go.Eng
set_option linter.unusedSectionVars false
set_option linter.unusedVariables false
variable [Gl] [Mx]
section
variable {H:Type} {enc:TypeId×Value->H} {P:Program} {w:World} {sp:Nat->Bool} {held:Bool}
def ZB0 (k:IntKind) (l:List Int):AV:=.fs (l.map (.int k)) l.length
theorem Z9j {t e:TypeId} {k:IntKind} {cs:List Value} {d:DataW H} {ps:List MemPlace} {fuel:Nat} (hu:P.underlying t=some (.slice e)) (he:P.underlying e=some (.int k)) (hc:P.cellsOf e=1) (h:DataW.trod enc P w 0 sp held fuel t cs=some (d,ps)):∃ l:List Int,VRP (Gh.all w) [ZB0 k l] cs/\l.length<=9223372036854775807/\∀ x∈l,(Lit.int k x).wf=true:=by
 cases fuel with
 | zero=>simp [DataW.trod] at h
 | succ f=>
  have h0:=h
  unfold DataW.trod at h
  rw [hu] at h
  split at h<;>first | (rename_i h2;cases h2;done) | (simp at h;done) | skip
  ·obtain ⟨l,a,b,c⟩:=Z1K (v:=.slice none 0 0) hu he hc ⟨f+1,h0⟩ rfl
   exact ⟨l,VRP.cons_iff.2 ⟨a,VRP.nil⟩,b,c⟩
  ·obtain ⟨l,a,b,c⟩:=Z1K (v:=.slice _ _ _) hu he hc ⟨f+1,h0⟩ rfl
   exact ⟨l,VRP.cons_iff.2 ⟨a,VRP.nil⟩,b,c⟩
theorem Z7d {t e:TypeId} {k:IntKind} (hu:P.underlying t=some (.slice e)) (he:P.underlying e=some (.int k)) (hc:P.cellsOf e=1) {fuel:Nat} {a:Addr} {arr:Array Value} (harr:ZcS w a.block=some arr):∀ (n i:Nat) (el:List (DataW H×List MemPlace)),(List.range' i n).mapM (fun i=>(w.cells? 0 (a.add (i * 1)) 1).bind (DataW.trod enc P w 0 sp held fuel t))=some el->∃ l:List (List Int),l.length=n/\VRP (Gh.all w) (l.map (ZB0 k)) (arr.toList.drop (a.off+i))/\∀ x∈l,x.length<=9223372036854775807/\∀ y∈x,(Lit.int k y).wf=true
 | 0,i,el,h=>⟨[],rfl,VRP.nil,fun x hx=>by cases hx⟩
 | n+1,i,el,h=>by
  rw [List.range'_succ] at h
  obtain ⟨y,el',h1,h2,rfl⟩:=Zbo h
  obtain ⟨l,hl,hrest,hwf⟩:=Z7d hu he hc harr n (i+1) el' h2
  obtain ⟨cs,hcs,hd⟩:=Option.bind_eq_some_iff.1 h1
  obtain ⟨_,arr',harr',hcc,hlen⟩:=Zeb hcs (by omega)
  have eb:(a.add (i * 1)).block=a.block:=by unfold Addr.add;split<;>rfl
  have eo:(a.add (i * 1)).off=a.off+i:=by unfold Addr.add;split<;>simp_all
  rw [eb,harr] at harr'
  cases harr'
  rw [eo] at hcc
  obtain ⟨m,hm,hm1,hm2⟩:=Z9j hu he hc hd
  refine ⟨m::l,by simp [hl],?_,fun x hx=>by
   rcases List.mem_cons.1 hx with rfl | hx
   ·exact ⟨hm1,hm2⟩
   ·exact hwf x hx⟩
  rw [<-List.take_append_drop 1 (arr.toList.drop (a.off+i)),<-hcc,List.drop_drop,List.map_cons]
  have h1:cs.length=1:=hlen
  obtain ⟨c,rfl⟩:=List.length_eq_one_iff.1 h1
  refine VRP.cons_iff.2 ⟨(VRP.cons_iff.1 hm).1,?_⟩
  rw [Nat.add_assoc];exact hrest
theorem ZBr {u t e:TypeId} {k:IntKind} {v:Value} {d:DataW H} {ps:List MemPlace} (hs:P.underlying u=some (.slice t)) (ht:P.cellsOf t=1) (hu:P.underlying t=some (.slice e)) (he:P.underlying e=some (.int k)) (hc:P.cellsOf e=1) (h:DataW.Trod enc P w 0 sp held u v d ps) (hv:v.cells=#[v]):∃ l:List (List Int),VR (Gh.all w) (.fs (l.map (ZB0 k)) l.length) v/\l.length<=9223372036854775807/\∀ x∈l,x.length<=9223372036854775807/\∀ y∈x,(Lit.int k y).wf=true:=by
 obtain ⟨fuel,h⟩:=h
 rw [hv] at h
 cases fuel with
 | zero=>simp [DataW.trod] at h
 | succ f=>
  unfold DataW.trod at h
  rw [hs] at h
  split at h<;>rename_i heq h2<;>first | (cases heq;done) | (cases h2;done) | skip
  all_goals first | (simp at h;done) | skip
  ·simp at h2
   subst h2
   exact ⟨[],by simp only [List.map_nil,VR];exact .inr ⟨trivial,rfl,trivial⟩,by simp,fun x hx=>by cases hx⟩
  ·rename_i a len cap
   simp at h2
   subst h2
   cases heq
   rw [ht] at h
   split at h
   ·rename_i hb
    obtain ⟨el,hel,h⟩:=Option.bind_eq_some_iff.1 h
    cases len with
    | zero=>
     obtain ⟨ab,ao,asp⟩:=a
     exact ⟨[],by simp only [List.map_nil,VR];exact .inl ⟨ab,ao,asp,cap,rfl,Nat.zero_le _,.inl trivial⟩,by simp,fun x hx=>by cases hx⟩
    | succ n=>
     have hel0:=hel
     rw [List.range_eq_range',List.range'_succ] at hel0
     obtain ⟨y0,_,h0,_,_⟩:=Zbo hel0
     obtain ⟨cs0,hcs0,_⟩:=Option.bind_eq_some_iff.1 h0
     have ea:a.add (0 * 1)=a:=by simp [Addr.add]
     rw [ea] at hcs0
     obtain ⟨hsp,arr,harr,_,_⟩:=Zeb hcs0 (by omega)
     rw [List.range_eq_range'] at hel
     obtain ⟨l,hl,key,hwf⟩:=Z7d hu he hc harr (n+1) 0 el hel
     obtain ⟨ab,ao,asp⟩:=a
     simp only at hsp harr key
     subst hsp
     refine ⟨l,?_,by have:maxLen=9223372036854775807:=rfl;omega,hwf⟩
     simp only [VR]
     exact .inl ⟨ab,ao,none,cap,by rw [hl],by omega,.inr ⟨rfl,arr,harr,key⟩⟩
   ·cases h
end
end Go.Eng
