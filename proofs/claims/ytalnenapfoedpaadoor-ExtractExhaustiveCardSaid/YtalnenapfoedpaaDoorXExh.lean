/-
 ExtractExhaustive returns true, whatever the arguments, the world and the tape: the row's statement and its card. No conditions.
-/
import Derived.Test.YtalnenapfoedpaaDoorAcode
import Derived.Test.YtalnenapfoedpaaDoorPl1
import Derived.Test.YtalnenapfoedpaaDoorEngArg
import Derived.Test.YtalnenapfoedpaaDoorCards
import Derived.Test.YtalnenapfoedpaaDoorTie
import Derived.ProofKit
import Derived.OpenShut
import Derived.Carry
import Derived.WideShapes
import Derived.KernelRfl
import Derived.Deep.DeepHandedRow
namespace Go.Proofs.YtalnenapfoedpaaDoor.extractExhaustive
open Go.ChangeShapes Go.WideShapes Go.ChangeAt Go.RowKit Go.Eng Go.Dat
theorem own:ownKnob Tryd.prog.godebug=none:=by kernel_rfl
theorem ZzH:Eng.Znl Tryd.prog:=Eng.ZzN (by kernel_rfl)
theorem mixed:Tryd.prog.follows .mixedOrders=true:=Tryd.checked.mixed
@[reducible] noncomputable def mx0:Mx:=⟨fun _ _=>none,fun _ _ _=>false,fun _=>false,fun _=>false,fun _=>none,fun _=>false⟩
theorem Z1L:@Eng.Zoo gl mx0 Tryd.prog:=fun f args v h=>by
 replace h:(none:Option AV)=some v:=h
 cases h
theorem Z8h:Eng.isV (.bool true) (@Eng.ZeH mx0 Tryd.prog (@Eng.run gl mx0 (fun _=>false) (Eng.Zaf (fun _=>false)) Tryd.prog 200000) 7 [])=true:=by kernel_rfl
theorem ZBp:Eng.ZlA Tryd.prog 7 [] (.bool true):=@Eng.run_pure gl mx0 Tryd.prog (fun _=>false) mixed Z1L ZzH 200000 7 [] (.bool true) (Eng.Z1S Z8h)
theorem Z2t:Eng.Zoo Tryd.prog:=by
 intro f args v h
 replace h:(bif f.beq 7 then (match args with | []=>some (AV.bool true) | _=>none) else none)=some v:=h
 cases hb7:f.beq 7 with
 | true=>
  rw [hb7] at h
  have hf:f=7:=Nat.eq_of_beq_eq_true hb7
  subst hf
  cases args with
  | cons x l=>cases h
  | nil=>
   cases h
   exact ⟨⟨_,Tryd.func7,by kernel_rfl⟩,ZBp⟩
 | false=>
 rw [hb7] at h
 replace h:(none)=some v:=h
 cases h
theorem Z1M:Eng.conv Tryd.prog 4 149 Rows.laid_internal_strconv_uint64pow10=some (match Z0e with | .fp xs=>xs | _=>[]):=by kernel_rfl
theorem Z1N:Eng.conv Tryd.prog 4 154 Rows.laid_math_bits_deBruijn32tab=some (match ZwE with | .fp xs=>xs | _=>[]):=by kernel_rfl
theorem Zrn:Eng.conv Tryd.prog 4 155 Rows.laid_math_bits_deBruijn64tab=some (match ZvW with | .fp xs=>xs | _=>[]):=by kernel_rfl
set_option maxRecDepth 100000 in
theorem ZzI (w:World) (h:laidMetH Tryd.prog Rows.extractExhaustiveRow.laid w):∀ g v,Gl.g g=some v->VR (Gh.all w) v (.pointer (some ⟨g,0,none⟩)):=by
 intro g v hg
 have h:laidMet Tryd.prog Rows.extractExhaustiveRow.laid w:=h
 obtain ⟨ps,hps,_⟩:=h
 replace hg:(bif g.beq 0 then some Z0e else bif g.beq 1 then some ZwE else bif g.beq 2 then some ZvW else none)=some v:=hg
 by_cases e0:g=0
 ·subst e0
  have hv:v=Z0e:=(Option.some.inj hg).symm
  subst hv
  exact Eng.Zo3 hps "internal/strconv.uint64pow10" Rows.laid_internal_strconv_uint64pow10 (List.Mem.tail _ (List.Mem.tail _ (List.Mem.head _))) 0 149 (by kernel_rfl) (by kernel_rfl) 4 _ Z1M
 rw [Eng.ZaR e0] at hg
 replace hg:(bif g.beq 1 then some ZwE else bif g.beq 2 then some ZvW else none)=some v:=hg
 by_cases e1:g=1
 ·subst e1
  have hv:v=ZwE:=(Option.some.inj hg).symm
  subst hv
  exact Eng.Zo3 hps "math/bits.deBruijn32tab" Rows.laid_math_bits_deBruijn32tab (List.Mem.head _) 1 154 (by kernel_rfl) (by kernel_rfl) 4 _ Z1N
 rw [Eng.ZaR e1] at hg
 replace hg:(bif g.beq 2 then some ZvW else none)=some v:=hg
 by_cases e2:g=2
 ·subst e2
  have hv:v=ZvW:=(Option.some.inj hg).symm
  subst hv
  exact Eng.Zo3 hps "math/bits.deBruijn64tab" Rows.laid_math_bits_deBruijn64tab (List.Mem.tail _ (List.Mem.head _)) 2 155 (by kernel_rfl) (by kernel_rfl) 4 _ Zrn
 rw [Eng.ZaR e2] at hg
 replace hg:(none)=some v:=hg
 cases hg
theorem wfI {x:Int} (h:(Lit.int .i64 x).wf=true):Go.Dat.I64 x:=by
 have h:(decide (-9223372036854775808<=x)&&decide (x<=9223372036854775807))=true:=h
 simp only [Bool.and_eq_true,decide_eq_true_eq] at h
 exact h
theorem Z1O (x0:List Int) (x1:List Int) (hb0:x0.length<=9223372036854775807) (hw0:∀ x∈x0,I64 x) (hb1:x1.length<=9223372036854775807) (hw1:∀ x∈x1,I64 x):Eng.ZlA Tryd.prog 4 [(AV.fs (List.flatMap (Ty.cells (.int .i64)) x0) (List.length x0)),(AV.fs (List.flatMap (Ty.cells (.int .i64)) x1) (List.length x1))] (.bool true):=
 Eng.ZlB Z2t (Eng.Z0C mixed Z2t ZzH) (s4 (x0,x1) true (ZFk x0 x1 hb0 hw0 hb1 hw1))
theorem Z4D (x0:List Int) (x1:List Int) (hb0:x0.length<=9223372036854775807) (hw0:∀ x∈x0,I64 x) (hb1:x1.length<=9223372036854775807) (hw1:∀ x∈x1,I64 x) (w:World) (h:laidMetH Tryd.prog Rows.extractExhaustiveRow.laid w) (vs:Array Value) (ha:VRP (Gh.all w) [(AV.fs (List.flatMap (Ty.cells (.int .i64)) x0) (List.length x0)),(AV.fs (List.flatMap (Ty.cells (.int .i64)) x1) (List.length x1))] vs.toList) (hl:[(AV.fs (List.flatMap (Ty.cells (.int .i64)) x0) (List.length x0)),(AV.fs (List.flatMap (Ty.cells (.int .i64)) x1) (List.length x1))].length=vs.size):Calls Tryd.prog 4 vs w fun e w'=>e=.returned (.bool true)/\Below w.heap.size w w':=
 Eng.ZzM (Z1O x0 x1 hb0 hw0 hb1 hw1) (Gh.all w) w (Eng.PR.all (ZzI w h)) vs ha hl
theorem ZmW:∀ l:List Int,List.flatMap (Ty.cells (.int .i64)) l=l.map (AV.int .i64)
 | []=>rfl
 | x::l=>by rw [List.map_cons,<-ZmW l];rfl
theorem Zf5:laidOutB Tryd.prog=true:=by kernel_rfl
noncomputable def Zho (os:Os):World:=
 {World.holding Tryd.prog os ⟨#[],#[],[]⟩ with heap:=((((World.holding Tryd.prog os ⟨#[],#[],[]⟩).heap.modify 1 fun
   | .cells _ t frozen=>.cells #[.int .u8 0,.int .u8 1,.int .u8 28,.int .u8 2,.int .u8 29,.int .u8 14,.int .u8 24,.int .u8 3,.int .u8 30,.int .u8 22,.int .u8 20,.int .u8 15,.int .u8 25,.int .u8 17,.int .u8 4,.int .u8 8,.int .u8 31,.int .u8 27,.int .u8 13,.int .u8 23,.int .u8 21,.int .u8 19,.int .u8 16,.int .u8 7,.int .u8 26,.int .u8 12,.int .u8 18,.int .u8 6,.int .u8 11,.int .u8 5,.int .u8 10,.int .u8 9] t frozen
   | o=>o).modify 2 fun
   | .cells _ t frozen=>.cells #[.int .u8 0,.int .u8 1,.int .u8 56,.int .u8 2,.int .u8 57,.int .u8 49,.int .u8 28,.int .u8 3,.int .u8 61,.int .u8 58,.int .u8 42,.int .u8 50,.int .u8 38,.int .u8 29,.int .u8 17,.int .u8 4,.int .u8 62,.int .u8 47,.int .u8 59,.int .u8 36,.int .u8 45,.int .u8 43,.int .u8 51,.int .u8 22,.int .u8 53,.int .u8 39,.int .u8 33,.int .u8 30,.int .u8 24,.int .u8 18,.int .u8 12,.int .u8 5,.int .u8 63,.int .u8 55,.int .u8 48,.int .u8 27,.int .u8 60,.int .u8 41,.int .u8 37,.int .u8 16,.int .u8 46,.int .u8 35,.int .u8 44,.int .u8 21,.int .u8 52,.int .u8 32,.int .u8 23,.int .u8 11,.int .u8 54,.int .u8 26,.int .u8 40,.int .u8 15,.int .u8 34,.int .u8 20,.int .u8 31,.int .u8 10,.int .u8 25,.int .u8 14,.int .u8 19,.int .u8 9,.int .u8 13,.int .u8 8,.int .u8 7,.int .u8 6] t frozen
   | o=>o).modify 0 fun
   | .cells _ t frozen=>.cells #[.int .u64 1,.int .u64 10,.int .u64 100,.int .u64 1000,.int .u64 10000,.int .u64 100000,.int .u64 1000000,.int .u64 10000000,.int .u64 100000000,.int .u64 1000000000,.int .u64 10000000000,.int .u64 100000000000,.int .u64 1000000000000,.int .u64 10000000000000,.int .u64 100000000000000,.int .u64 1000000000000000,.int .u64 10000000000000000,.int .u64 100000000000000000,.int .u64 1000000000000000000,.int .u64 10000000000000000000] t frozen
   | o=>o) }
theorem Zs0 (os:Os):laidMet Tryd.prog Rows.extractExhaustiveRow.laid ((Zho os).forCall (fun _ _=>0) ⟨#[],#[Value.slice none 0 0,Value.slice none 0 0],[]⟩).memory:=
 laidMet_of_run' 8 (by kernel_rfl) (by kernel_rfl)
theorem reads (os:Os) {H:Type} (enc:TypeId×Value->H):∃ places,DataW.whole enc Tryd.prog ((Zho os).forCall (fun _ _=>0) ⟨#[],#[Value.slice none 0 0,Value.slice none 0 0],[]⟩).memory Tryd.f4.params.toList Rows.extractExhaustiveSpec.vars false (#[Value.slice none 0 0,Value.slice none 0 0]:Array Value).toList 8=some ([.nil,.nil],[],places):=
 ⟨[],by kernel_rfl⟩
set_option maxRecDepth 100000 in
theorem Zs1 (H:Type) (enc:TypeId×Value->H) (W:World) (base:Nat) (args:Array Value) (ds gs:List (DataW H)) (before:List MemPlace)
 (hval0:∀ (j:Nat) t v,Tryd.f4.params[j]?=some t->args[j]?=some v->Value.okWide Tryd.prog W .any base t v)
 (hW:DataW.Whole enc Tryd.prog Tryd.f4.params.toList Rows.extractExhaustiveSpec.vars false W args.toList ds gs before) (hL:laidMetH Tryd.prog Rows.extractExhaustiveRow.laid W) :
 Calls Tryd.prog 4 args W fun e W'=>∃ v,e=.returned v/\Rows.extractExhaustiveSpec.post enc Tryd.prog Tryd.f4 false true false false W args v W':=by
 have hval:∀ (j:Nat) t v,[22,22][j]?=some t->args[j]?=some v->Value.okWide Tryd.prog W .any base t v:=fun j t v hj hv=>hval0 j t v (by rw [<-Array.getElem?_toList,Tryd.params4];exact hj) hv
 have hW':=hW
 obtain ⟨p,q,hA0,hV,rfl,hfz,hnd⟩:=hW
 have hA:DataW.TrodAll enc Tryd.prog W 0 (fun _=>true) true Tryd.f4.params.toList args.toList ds p:=hA0
 rw [Tryd.params4] at hA
 obtain ⟨v0,vs0,d0,ds0,p0,q0,hargs,rfl,rfl,h0,r0⟩:=trodAll_cons hA
 obtain ⟨v1,vs1,d1,ds1,p1,q1,rfl,rfl,rfl,h1,r1⟩:=trodAll_cons r0
 obtain ⟨rfl,rfl,rfl⟩:=trodAll_nil r1
 obtain rfl:args=#[v0,v1]:=by cases args;simp_all
 obtain ⟨rfl,rfl⟩:=trodVars_none hV
 obtain ⟨a0,ln0,cp0,rfl⟩:=okWide_slice Tryd.underlying22 (hval 0 22 v0 rfl rfl)
 obtain ⟨x0,e0,hb0,hw0⟩:=Eng.Z1K Tryd.underlying22 Tryd.underlying3 (by kernel_rfl) h0 rfl
 rw [<-ZmW] at e0
 obtain ⟨a1,ln1,cp1,rfl⟩:=okWide_slice Tryd.underlying22 (hval 1 22 v1 rfl rfl)
 obtain ⟨x1,e1,hb1,hw1⟩:=Eng.Z1K Tryd.underlying22 Tryd.underlying3 (by kernel_rfl) h1 rfl
 rw [<-ZmW] at e1
 have hlt:=hW'.lt
 simp only [List.append_nil] at hW' hlt
 refine (Z4D x0 x1 hb0 (fun x hx=>wfI (hw0 x hx)) hb1 (fun x hx=>wfI (hw1 x hx)) W hL _ (VRP.cons_iff.2 ⟨e0,VRP.cons_iff.2 ⟨e1,VRP.nil⟩⟩) rfl).mono fun e W' ⟨he,hb⟩=>?_
 subst he
 refine ⟨_,rfl,_,[],_,[],_,[],hW',?_,trodAll_cons_mk (Below.trod Zf5 (by kernel_rfl) (of_decide_eq_true (by kernel_rfl)) h0 hb (fun x hx=>hlt x (by simp only [List.mem_append];simp [hx]))) (trodAll_cons_mk (Below.trod Zf5 (by kernel_rfl) (of_decide_eq_true (by kernel_rfl)) h1 hb (fun x hx=>hlt x (by simp only [List.mem_append];simp [hx]))) trodAll_mk0),rfl,hb.frame _,fun h=>by cases h⟩
 exact trodAll_cons_mk (shut_bool Tryd.underlying4 _) trodAll_mk0
set_option maxRecDepth 100000 in
theorem ZzJ (os:Os) (started:os.Started) (H:Type) (enc:TypeId×Value->H) (F:Stop.Interp) :
 ReturnsInHanded {} Tryd.checked os 4 .any ((OpenSpec.ofChange Rows.extractExhaustiveSpec).preRow enc Tryd.prog Tryd.f4 Rows.extractExhaustiveRow.domain false Rows.extractExhaustiveRow.laid) (((OpenSpec.ofChange Rows.extractExhaustiveSpec).at F).post enc Tryd.prog Tryd.f4 false true false false):=by
 obtain ⟨places,hx⟩:=reads os enc
 refine returnsInHanded_of_row (C:=Tryd.checked) (s:=OpenSpec.ofChange Rows.extractExhaustiveSpec) own started (by kernel_rfl) Tryd.func4
  (witness_row_at (enc:=enc) (C:=Tryd.checked) false (Zho os) #[Value.slice none 0 0,Value.slice none 0 0] rfl (by kernel_rfl) (by kernel_rfl) (by kernel_rfl)
   (OpenSpec.preRow_of_cond 8 hx (by kernel_rfl) (fun k hk=>by cases hk) (by kernel_rfl) (Zs0 os))) ?_
 intro W base args ds gs before hval hW _ _ _ hL _ _
 exact Zs1 H enc W base args ds gs before hval hW hL
theorem Z4E:Rows.ExtractExhaustiveSaid:=
 OpenClaim.holds_of_cond 4 Tryd.f4 rfl rfl rfl rfl rfl rfl rfl ⟨rfl,rfl,rfl,rfl,rfl⟩ rfl rfl rfl rfl rfl (by kernel_rfl) Tryd.func4 (by kernel_rfl)
  (of_decide_eq_true (by kernel_rfl)) (by unfold Func.isWrapper;first | (rw [if_pos (by decide +kernel)];kernel_rfl) | (rw [if_neg (by decide +kernel)];exact ⟨rfl,rfl⟩))
  (fun os started H enc _ F=>by rw [OpenClaim.pre_eq_preRow];exact ZzJ os started H enc F)
theorem Z1P:Tryd.pinned.checked.prog.wantsStandIn 22=false:=by kernel_rfl
theorem Zlw (f : FuncId) (fn : Func) (hf : Tryd.pinned.checked.prog.funcNamed "fulling/fullinglaw27.ExtractExhaustive" = some f) (hfn : Tryd.pinned.checked.prog.funcs[f]? = some fn) :
 false=Tryd.pinned.checked.prog.looks []/\∀ (j:Nat) t,fn.params[j]?=some t->Tryd.pinned.checked.prog.wantsStandIn t=false:=by
 obtain rfl : f = 4 := Option.some.inj ((show Tryd.prog.funcNamed "fulling/fullinglaw27.ExtractExhaustive" = some 4 by kernel_rfl).symm.trans hf) |>.symm
 obtain rfl:fn=Tryd.f4:=(Option.some.inj (Tryd.func4.symm.trans hfn)).symm
 refine ⟨by kernel_rfl,fun j t ht=>?_⟩
 rw [<-Array.getElem?_toList,Tryd.params4] at ht
 have hm:t∈[22,22]:=List.mem_of_getElem? ht
 simp only [List.mem_cons,List.not_mem_nil,or_false] at hm
 rcases hm with rfl | rfl
 ·exact Z1P
 ·exact Z1P
theorem card:Rows.ExtractExhaustiveCardSaid:=
 Claim7.holds_tied_plain_at .later [] _ _ _ _ Z4E (fun _ h=>by cases h) (by kernel_rfl) (fun _ h=>by cases h) extractExhaustive_row_tie rfl ⟨rfl,rfl⟩ (by kernel_rfl) rfl Zlw (by kernel_rfl)
end Go.Proofs.YtalnenapfoedpaaDoor.extractExhaustive
