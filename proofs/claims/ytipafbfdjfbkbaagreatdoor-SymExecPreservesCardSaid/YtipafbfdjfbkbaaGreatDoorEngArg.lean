import Derived.Test.YtipafbfdjfbkbaaGreatDoorEngLaid
namespace Go.Eng
set_option linter.unusedSectionVars false
set_option linter.unusedVariables false
variable [Gl] [Mx]
section
variable {H:Type} {enc:TypeId×Value->H} {P:Program} {w:World} {sp:Nat->Bool} {held:Bool}
theorem ZtR {fuel:Nat} {t:TypeId} {k:IntKind} {cs:List Value} {d:DataW H} {ps:List MemPlace} (hu:P.underlying t=some (.int k)) (h:DataW.trod enc P w 0 sp held fuel t cs=some (d,ps)):∃ n:Int,cs=[.int k n]/\(Lit.int k n).wf=true:=by
 cases fuel with
 | zero=>simp [DataW.trod] at h
 | succ f=>
  simp only [DataW.trod,hu] at h;split at h<;>simp_all
theorem Z2s {t:TypeId} {k:IntKind} {v:Value} {d:DataW H} {ps:List MemPlace} (hu:P.underlying t=some (.int k)) (h:DataW.Trod enc P w 0 sp held t v d ps) (hv:v.cells=#[v]):∃ n:Int,v=.int k n/\(Lit.int k n).wf=true:=by
 obtain ⟨fuel,h⟩:=h;rw [hv] at h;obtain ⟨n,e,hw⟩:=ZtR hu h;simp at e;exact ⟨n,e,hw⟩
theorem Zik {e:TypeId} {k:IntKind} (he:P.underlying e=some (.int k)) {fuel:Nat} {a:Addr} {arr:Array Value} (harr:ZcS w a.block=some arr):∀ (n i:Nat) (el:List (DataW H×List MemPlace)),(List.range' i n).mapM (fun i=>(w.cells? 0 (a.add (i * 1)) 1).bind (DataW.trod enc P w 0 sp held fuel e))=some el->∃ l:List Int,l.length=n/\VRP (Gh.all w) (l.map (.int k)) (arr.toList.drop (a.off+i))/\∀ x∈l,(Lit.int k x).wf=true
 | 0,i,el,h=>⟨[],rfl,VRP.nil,fun x hx=>by cases hx⟩
 | n+1,i,el,h=>by
  rw [List.range'_succ] at h;obtain ⟨y,el',h1,h2,rfl⟩:=Zbo h;obtain ⟨l,hl,hrest,hwf⟩:=Zik he harr n (i+1) el' h2;obtain ⟨cs,hcs,hd⟩:=Option.bind_eq_some_iff.1 h1;obtain ⟨_,arr',harr',hc,hlen⟩:=Zeb hcs (by omega);have eb:(a.add (i * 1)).block=a.block:=by unfold Addr.add;split<;>rfl
  have eo:(a.add (i * 1)).off=a.off+i:=by unfold Addr.add;split<;>simp_all
  rw [eb,harr] at harr';cases harr';rw [eo] at hc;obtain ⟨m,rfl,hm⟩:=ZtR he hd;refine ⟨m::l,by simp [hl],?_,fun x hx=>by
   rcases List.mem_cons.1 hx with rfl | hx
   ·exact hm
   ·exact hwf x hx⟩
  rw [<-List.take_append_drop 1 (arr.toList.drop (a.off+i)),<-hc,List.drop_drop,List.map_cons];refine VRP.cons_iff.2 ⟨by simp only [VR],?_⟩;rw [Nat.add_assoc];exact hrest
theorem Z1K {t e:TypeId} {k:IntKind} {v:Value} {d:DataW H} {ps:List MemPlace} (hu:P.underlying t=some (.slice e)) (he:P.underlying e=some (.int k)) (hc:P.cellsOf e=1) (h:DataW.Trod enc P w 0 sp held t v d ps) (hv:v.cells=#[v]):∃ l:List Int,VR (Gh.all w) (.fs (l.map (.int k)) l.length) v/\l.length<=9223372036854775807/\∀ x∈l,(Lit.int k x).wf=true:=by
 obtain ⟨fuel,h⟩:=h;rw [hv] at h;cases fuel with
 | zero=>simp [DataW.trod] at h
 | succ f=>
  unfold DataW.trod at h;rw [hu] at h;split at h<;>rename_i heq h2<;>first | (cases heq;done) | (cases h2;done) | skip
  all_goals first | (simp at h;done) | skip
  ·simp at h2;subst h2;exact ⟨[],by simp only [List.map_nil,VR];exact .inr ⟨trivial,rfl,trivial⟩,by simp,fun x hx=>by cases hx⟩
  ·rename_i a len cap;simp at h2;subst h2;cases heq;rw [hc] at h;split at h
   ·rename_i hb;obtain ⟨el,hel,h⟩:=Option.bind_eq_some_iff.1 h;cases len with
    | zero=>
     obtain ⟨ab,ao,asp⟩:=a;exact ⟨[],by simp only [List.map_nil,VR];exact .inl ⟨ab,ao,asp,cap,rfl,Nat.zero_le _,.inl trivial⟩,by simp,fun x hx=>by cases hx⟩
    | succ n=>
     have hel0:=hel;rw [List.range_eq_range',List.range'_succ] at hel0;obtain ⟨y0,_,h0,_,_⟩:=Zbo hel0;obtain ⟨cs0,hcs0,_⟩:=Option.bind_eq_some_iff.1 h0;have ea:a.add (0 * 1)=a:=by simp [Addr.add]
     rw [ea] at hcs0;obtain ⟨hsp,arr,harr,_,_⟩:=Zeb hcs0 (by omega);rw [List.range_eq_range'] at hel;obtain ⟨l,hl,key,hwf⟩:=Zik he harr (n+1) 0 el hel;obtain ⟨ab,ao,asp⟩:=a;simp only at hsp harr key;subst hsp;refine ⟨l,?_,by have:maxLen=9223372036854775807:=rfl;omega,hwf⟩;simp only [VR];exact .inl ⟨ab,ao,none,cap,by rw [hl],by omega,.inr ⟨rfl,arr,harr,key⟩⟩
   ·cases h
end
theorem PR.all {w:World} (h:∀ g v,Gl.g g=some v->VR (Gh.all w) v (.pointer (some ⟨g,0,none⟩))):PR (Gh.all w) w:=⟨Zue w,h⟩
end Go.Eng
