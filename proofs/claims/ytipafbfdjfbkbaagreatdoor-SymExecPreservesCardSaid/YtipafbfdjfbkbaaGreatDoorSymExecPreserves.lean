import Derived.Test.YtipafbfdjfbkbaaGreatDoorAcode
import Derived.Test.YtipafbfdjfbkbaaGreatDoorPl2
import Derived.Test.YtipafbfdjfbkbaaGreatDoorEngArg
import Derived.Test.YtipafbfdjfbkbaaGreatDoorCards
import Derived.Test.YtipafbfdjfbkbaaGreatDoorTie
import Derived.ProofKit
import Derived.OpenShut
import Derived.Carry
import Derived.WideShapes
import Derived.KernelRfl
import Derived.Deep.DeepHandedRow
import Derived.Deep.DeepWitnessRowRef
open Option.some (inj)
namespace Go.Proofs.YtipafbfdjfbkbaaGreatDoor.symExecPreserves
open Go.ChangeShapes Go.WideShapes Go.ChangeAt Go.RowKit Go.Eng Go.Dat
theorem own:ownKnob Tryz.prog.godebug=none:=by kernel_rfl
theorem ZzH:Eng.Znl Tryz.prog:=Eng.ZzN (by kernel_rfl)
theorem mixed:Tryz.prog.follows .mixedOrders=true:=Tryz.checked.mixed
@[reducible] noncomputable def mx0:Mx:=⟨fun _ _=>none,fun _ _ _=>false,fun _=>false,fun _=>false,fun _=>none,fun _=>false⟩
theorem Z1L:@Eng.Zoo gl mx0 Tryz.prog:=fun f args v h=>by
 replace h:(none:Option AV)=some v:=h;cases h
theorem ZSd:Eng.isV (.bool true) (@Eng.ZeH mx0 Tryz.prog (@Eng.run gl mx0 (fun _=>false) (Eng.Zaf (fun _=>false)) Tryz.prog 200000) 10 [])=true:=by kernel_rfl
theorem ZTj:Eng.ZlA Tryz.prog 10 [] (.bool true):=@Eng.run_pure gl mx0 Tryz.prog (fun _=>false) mixed Z1L ZzH 200000 10 [] (.bool true) (Eng.Z1S ZSd)
theorem Z2t:Eng.Zoo Tryz.prog:=by
 intro f args v h;replace h:(bif f.beq 10 then (match args with | []=>some (AV.bool true) | _=>none) else none)=some v:=h;cases hb10:f.beq 10 with
 | true=>
  rw [hb10] at h;have hf:f=10:=Nat.eq_of_beq_eq_true hb10;subst hf;cases args with
  | cons x l=>cases h
  | nil=>
   cases h;exact ⟨⟨_,Tryz.func10,by kernel_rfl⟩,ZTj⟩
 | false=>
 rw [hb10] at h;replace h:(none)=some v:=h;cases h
theorem Z1M:Eng.conv Tryz.prog 4 195 Rows.laid_fulling_machine_table=some (match Z0e with | .fp xs=>xs | _=>[]):=by kernel_rfl
theorem Z1N:Eng.conv Tryz.prog 4 206 Rows.laid_internal_strconv_uint64pow10=some (match ZwE with | .fp xs=>xs | _=>[]):=by kernel_rfl
theorem Zrn:Eng.conv Tryz.prog 4 210 Rows.laid_math_bits_deBruijn32tab=some (match ZvW with | .fp xs=>xs | _=>[]):=by kernel_rfl
theorem ZP5:Eng.conv Tryz.prog 4 211 Rows.laid_math_bits_deBruijn64tab=some (match ZNy with | .fp xs=>xs | _=>[]):=by kernel_rfl
set_option maxRecDepth 100000 in
theorem ZzI (w:World) (h:laidMetH Tryz.prog Rows.symExecPreservesRow.laid w):∀ g v,Gl.g g=some v->VR (Gh.all w) v (.pointer (some ⟨g,0,none⟩)):=by
 intro g v hg;have h:laidMet Tryz.prog Rows.symExecPreservesRow.laid w:=h;obtain ⟨ps,hps,_⟩:=h;replace hg:(bif g.beq 0 then some Z0e else bif g.beq 1 then some ZwE else bif g.beq 2 then some ZvW else bif g.beq 3 then some ZNy else none)=some v:=hg;by_cases e0:g=0
 ·subst e0;have hv:v=Z0e:=(inj hg).symm;subst hv;exact Eng.Zo3 hps "fulling/machine.table" Rows.laid_fulling_machine_table (List.Mem.head _) 0 195 (by kernel_rfl) (by kernel_rfl) 4 _ Z1M
 rw [Eng.ZaR e0] at hg;replace hg:(bif g.beq 1 then some ZwE else bif g.beq 2 then some ZvW else bif g.beq 3 then some ZNy else none)=some v:=hg;by_cases e1:g=1
 ·subst e1;have hv:v=ZwE:=(inj hg).symm;subst hv;exact Eng.Zo3 hps "internal/strconv.uint64pow10" Rows.laid_internal_strconv_uint64pow10 (List.Mem.tail _ (List.Mem.tail _ (List.Mem.tail _ (List.Mem.head _)))) 1 206 (by kernel_rfl) (by kernel_rfl) 4 _ Z1N
 rw [Eng.ZaR e1] at hg;replace hg:(bif g.beq 2 then some ZvW else bif g.beq 3 then some ZNy else none)=some v:=hg;by_cases e2:g=2
 ·subst e2;have hv:v=ZvW:=(inj hg).symm;subst hv;exact Eng.Zo3 hps "math/bits.deBruijn32tab" Rows.laid_math_bits_deBruijn32tab (List.Mem.tail _ (List.Mem.head _)) 2 210 (by kernel_rfl) (by kernel_rfl) 4 _ Zrn
 rw [Eng.ZaR e2] at hg;replace hg:(bif g.beq 3 then some ZNy else none)=some v:=hg;by_cases e3:g=3
 ·subst e3;have hv:v=ZNy:=(inj hg).symm;subst hv;exact Eng.Zo3 hps "math/bits.deBruijn64tab" Rows.laid_math_bits_deBruijn64tab (List.Mem.tail _ (List.Mem.tail _ (List.Mem.head _))) 3 211 (by kernel_rfl) (by kernel_rfl) 4 _ ZP5
 rw [Eng.ZaR e3] at hg;replace hg:(none)=some v:=hg;cases hg
theorem wfI {x:Int} (h:(Lit.int .i64 x).wf=true):Go.Dat.I64 x:=by
 have h:(decide (-9223372036854775808<=x)&&decide (x<=9223372036854775807))=true:=h;simp only [Bool.and_eq_true,decide_eq_true_eq] at h;exact h
theorem Z1O (x0:List Int) (x1:Int) (x2:Int) (x3:Int) (hb0:x0.length<=9223372036854775807) (hw0:∀ x∈x0,I64 x) (hw1:I64 x1) (hw2:I64 x2) (hw3:I64 x3):Eng.ZlA Tryz.prog 3 [(AV.fs (List.flatMap (Ty.cells (.int .i64)) x0) (List.length x0)),(AV.int .i64 x1),(AV.int .i64 x2),(AV.int .i64 x3)] (.bool true):=
 Eng.ZlB Z2t (Eng.Z0C mixed Z2t ZzH) (s3 (x0,x1,x2,x3) true (ZR2 x0 x1 x2 x3 hb0 hw0 hw1 hw2 hw3))
theorem Z4D (x0:List Int) (x1:Int) (x2:Int) (x3:Int) (hb0:x0.length<=9223372036854775807) (hw0:∀ x∈x0,I64 x) (hw1:I64 x1) (hw2:I64 x2) (hw3:I64 x3) (w:World) (h:laidMetH Tryz.prog Rows.symExecPreservesRow.laid w) (vs:Array Value) (ha:VRP (Gh.all w) [(AV.fs (List.flatMap (Ty.cells (.int .i64)) x0) (List.length x0)),(AV.int .i64 x1),(AV.int .i64 x2),(AV.int .i64 x3)] vs.toList) (hl:[(AV.fs (List.flatMap (Ty.cells (.int .i64)) x0) (List.length x0)),(AV.int .i64 x1),(AV.int .i64 x2),(AV.int .i64 x3)].length=vs.size):Calls Tryz.prog 3 vs w fun e w'=>e=.returned (.bool true)/\Below w.heap.size w w':=
 Eng.ZzM (Z1O x0 x1 x2 x3 hb0 hw0 hw1 hw2 hw3) (Gh.all w) w (Eng.PR.all (ZzI w h)) vs ha hl
theorem ZmW:∀ l:List Int,List.flatMap (Ty.cells (.int .i64)) l=l.map (AV.int .i64)
 | []=>rfl
 | x::l=>by rw [List.map_cons,<-ZmW l];rfl
theorem Zf5:laidOutB Tryz.prog=true:=by kernel_rfl
noncomputable def Zho (os:Os):World:=
 {World.holding Tryz.prog os ⟨#[.cells #[.string ⟨#[110,111,112]⟩,.int .i64 1,.bool false,.bool false,.bool false,.bool false,.int .i64 1,.string ⟨#[114,101,116]⟩,.int .i64 1,.bool false,.bool false,.bool false,.bool false,.int .i64 1,.string ⟨#[116,105,99,107]⟩,.int .i64 1,.bool false,.bool false,.bool false,.bool false,.int .i64 1,.string ⟨#[116,114,97,112]⟩,.int .i64 8,.bool false,.bool false,.bool false,.bool true,.int .i64 1,.string ⟨#[106,109,112]⟩,.int .i64 8,.bool false,.bool false,.bool false,.bool false,.int .i64 1,.string ⟨#[99,97,108,108]⟩,.int .i64 5,.bool false,.bool false,.bool false,.bool false,.int .i64 1,.string ⟨#[106,122]⟩,.int .i64 5,.bool true,.bool false,.bool false,.bool false,.int .i64 1,.string ⟨#[106,110,122]⟩,.int .i64 5,.bool true,.bool false,.bool false,.bool false,.int .i64 1,.string ⟨#[111,117,116]⟩,.int .i64 2,.bool true,.bool false,.bool false,.bool false,.int .i64 1,.string ⟨#[109,111,118]⟩,.int .i64 3,.bool false,.bool true,.bool true,.bool false,.int .i64 1,.string ⟨#[99,109,111,118,122]⟩,.int .i64 4,.bool true,.bool true,.bool true,.bool false,.int .i64 1,.string ⟨#[99,109,111,118,110,122]⟩,.int .i64 4,.bool true,.bool true,.bool true,.bool false,.int .i64 1,.string ⟨#[108,100,105]⟩,.int .i64 5,.bool false,.bool true,.bool false,.bool false,.int .i64 1,.string ⟨#[108,100,99]⟩,.int .i64 6,.bool false,.bool true,.bool false,.bool false,.int .i64 3,.string ⟨#[110,101,103]⟩,.int .i64 2,.bool true,.bool true,.bool false,.bool false,.int .i64 1,.string ⟨#[110,111,116]⟩,.int .i64 2,.bool true,.bool true,.bool false,.bool false,.int .i64 1,.string ⟨#[97,100,100]⟩,.int .i64 3,.bool true,.bool true,.bool true,.bool false,.int .i64 1,.string ⟨#[115,117,98]⟩,.int .i64 3,.bool true,.bool true,.bool true,.bool false,.int .i64 1,.string ⟨#[109,117,108]⟩,.int .i64 3,.bool true,.bool true,.bool true,.bool false,.int .i64 1,.string ⟨#[100,105,118]⟩,.int .i64 3,.bool true,.bool true,.bool true,.bool true,.int .i64 1,.string ⟨#[114,101,109]⟩,.int .i64 3,.bool true,.bool true,.bool true,.bool true,.int .i64 1,.string ⟨#[97,110,100]⟩,.int .i64 3,.bool true,.bool true,.bool true,.bool false,.int .i64 1,.string ⟨#[111,114]⟩,.int .i64 3,.bool true,.bool true,.bool true,.bool false,.int .i64 1,.string ⟨#[120,111,114]⟩,.int .i64 3,.bool true,.bool true,.bool true,.bool false,.int .i64 1,.string ⟨#[115,104,108]⟩,.int .i64 3,.bool true,.bool true,.bool true,.bool false,.int .i64 1,.string ⟨#[115,104,114]⟩,.int .i64 3,.bool true,.bool true,.bool true,.bool false,.int .i64 1,.string ⟨#[115,97,114]⟩,.int .i64 3,.bool true,.bool true,.bool true,.bool false,.int .i64 1,.string ⟨#[101,113]⟩,.int .i64 3,.bool true,.bool true,.bool true,.bool false,.int .i64 1,.string ⟨#[110,101]⟩,.int .i64 3,.bool true,.bool true,.bool true,.bool false,.int .i64 1,.string ⟨#[108,116]⟩,.int .i64 3,.bool true,.bool true,.bool true,.bool false,.int .i64 1,.string ⟨#[108,101]⟩,.int .i64 3,.bool true,.bool true,.bool true,.bool false,.int .i64 1,.string ⟨#[108,116,117]⟩,.int .i64 3,.bool true,.bool true,.bool true,.bool false,.int .i64 1,.string ⟨#[97,100,100,105]⟩,.int .i64 5,.bool true,.bool true,.bool false,.bool false,.int .i64 1,.string ⟨#[108,100]⟩,.int .i64 7,.bool false,.bool true,.bool true,.bool true,.int .i64 1,.string ⟨#[115,116]⟩,.int .i64 7,.bool true,.bool false,.bool true,.bool true,.int .i64 1,.string ⟨#[108,100,115]⟩,.int .i64 5,.bool false,.bool true,.bool false,.bool false,.int .i64 1,.string ⟨#[115,116,115]⟩,.int .i64 5,.bool true,.bool false,.bool false,.bool false,.int .i64 1] 178 (0,0)],#[],[]⟩ with heap:=(((((World.holding Tryz.prog os ⟨#[.cells #[.string ⟨#[110,111,112]⟩,.int .i64 1,.bool false,.bool false,.bool false,.bool false,.int .i64 1,.string ⟨#[114,101,116]⟩,.int .i64 1,.bool false,.bool false,.bool false,.bool false,.int .i64 1,.string ⟨#[116,105,99,107]⟩,.int .i64 1,.bool false,.bool false,.bool false,.bool false,.int .i64 1,.string ⟨#[116,114,97,112]⟩,.int .i64 8,.bool false,.bool false,.bool false,.bool true,.int .i64 1,.string ⟨#[106,109,112]⟩,.int .i64 8,.bool false,.bool false,.bool false,.bool false,.int .i64 1,.string ⟨#[99,97,108,108]⟩,.int .i64 5,.bool false,.bool false,.bool false,.bool false,.int .i64 1,.string ⟨#[106,122]⟩,.int .i64 5,.bool true,.bool false,.bool false,.bool false,.int .i64 1,.string ⟨#[106,110,122]⟩,.int .i64 5,.bool true,.bool false,.bool false,.bool false,.int .i64 1,.string ⟨#[111,117,116]⟩,.int .i64 2,.bool true,.bool false,.bool false,.bool false,.int .i64 1,.string ⟨#[109,111,118]⟩,.int .i64 3,.bool false,.bool true,.bool true,.bool false,.int .i64 1,.string ⟨#[99,109,111,118,122]⟩,.int .i64 4,.bool true,.bool true,.bool true,.bool false,.int .i64 1,.string ⟨#[99,109,111,118,110,122]⟩,.int .i64 4,.bool true,.bool true,.bool true,.bool false,.int .i64 1,.string ⟨#[108,100,105]⟩,.int .i64 5,.bool false,.bool true,.bool false,.bool false,.int .i64 1,.string ⟨#[108,100,99]⟩,.int .i64 6,.bool false,.bool true,.bool false,.bool false,.int .i64 3,.string ⟨#[110,101,103]⟩,.int .i64 2,.bool true,.bool true,.bool false,.bool false,.int .i64 1,.string ⟨#[110,111,116]⟩,.int .i64 2,.bool true,.bool true,.bool false,.bool false,.int .i64 1,.string ⟨#[97,100,100]⟩,.int .i64 3,.bool true,.bool true,.bool true,.bool false,.int .i64 1,.string ⟨#[115,117,98]⟩,.int .i64 3,.bool true,.bool true,.bool true,.bool false,.int .i64 1,.string ⟨#[109,117,108]⟩,.int .i64 3,.bool true,.bool true,.bool true,.bool false,.int .i64 1,.string ⟨#[100,105,118]⟩,.int .i64 3,.bool true,.bool true,.bool true,.bool true,.int .i64 1,.string ⟨#[114,101,109]⟩,.int .i64 3,.bool true,.bool true,.bool true,.bool true,.int .i64 1,.string ⟨#[97,110,100]⟩,.int .i64 3,.bool true,.bool true,.bool true,.bool false,.int .i64 1,.string ⟨#[111,114]⟩,.int .i64 3,.bool true,.bool true,.bool true,.bool false,.int .i64 1,.string ⟨#[120,111,114]⟩,.int .i64 3,.bool true,.bool true,.bool true,.bool false,.int .i64 1,.string ⟨#[115,104,108]⟩,.int .i64 3,.bool true,.bool true,.bool true,.bool false,.int .i64 1,.string ⟨#[115,104,114]⟩,.int .i64 3,.bool true,.bool true,.bool true,.bool false,.int .i64 1,.string ⟨#[115,97,114]⟩,.int .i64 3,.bool true,.bool true,.bool true,.bool false,.int .i64 1,.string ⟨#[101,113]⟩,.int .i64 3,.bool true,.bool true,.bool true,.bool false,.int .i64 1,.string ⟨#[110,101]⟩,.int .i64 3,.bool true,.bool true,.bool true,.bool false,.int .i64 1,.string ⟨#[108,116]⟩,.int .i64 3,.bool true,.bool true,.bool true,.bool false,.int .i64 1,.string ⟨#[108,101]⟩,.int .i64 3,.bool true,.bool true,.bool true,.bool false,.int .i64 1,.string ⟨#[108,116,117]⟩,.int .i64 3,.bool true,.bool true,.bool true,.bool false,.int .i64 1,.string ⟨#[97,100,100,105]⟩,.int .i64 5,.bool true,.bool true,.bool false,.bool false,.int .i64 1,.string ⟨#[108,100]⟩,.int .i64 7,.bool false,.bool true,.bool true,.bool true,.int .i64 1,.string ⟨#[115,116]⟩,.int .i64 7,.bool true,.bool false,.bool true,.bool true,.int .i64 1,.string ⟨#[108,100,115]⟩,.int .i64 5,.bool false,.bool true,.bool false,.bool false,.int .i64 1,.string ⟨#[115,116,115]⟩,.int .i64 5,.bool true,.bool false,.bool false,.bool false,.int .i64 1] 178 (0,0)],#[],[]⟩).heap.modify 0 fun
   | .cells _ t frozen=>.cells #[.slice (some ⟨(World.settled Tryz.prog os).heap.size+0,0,none⟩) 37 37] t frozen
   | o=>o).modify 2 fun
   | .cells _ t frozen=>.cells #[.int .u8 0,.int .u8 1,.int .u8 28,.int .u8 2,.int .u8 29,.int .u8 14,.int .u8 24,.int .u8 3,.int .u8 30,.int .u8 22,.int .u8 20,.int .u8 15,.int .u8 25,.int .u8 17,.int .u8 4,.int .u8 8,.int .u8 31,.int .u8 27,.int .u8 13,.int .u8 23,.int .u8 21,.int .u8 19,.int .u8 16,.int .u8 7,.int .u8 26,.int .u8 12,.int .u8 18,.int .u8 6,.int .u8 11,.int .u8 5,.int .u8 10,.int .u8 9] t frozen
   | o=>o).modify 3 fun
   | .cells _ t frozen=>.cells #[.int .u8 0,.int .u8 1,.int .u8 56,.int .u8 2,.int .u8 57,.int .u8 49,.int .u8 28,.int .u8 3,.int .u8 61,.int .u8 58,.int .u8 42,.int .u8 50,.int .u8 38,.int .u8 29,.int .u8 17,.int .u8 4,.int .u8 62,.int .u8 47,.int .u8 59,.int .u8 36,.int .u8 45,.int .u8 43,.int .u8 51,.int .u8 22,.int .u8 53,.int .u8 39,.int .u8 33,.int .u8 30,.int .u8 24,.int .u8 18,.int .u8 12,.int .u8 5,.int .u8 63,.int .u8 55,.int .u8 48,.int .u8 27,.int .u8 60,.int .u8 41,.int .u8 37,.int .u8 16,.int .u8 46,.int .u8 35,.int .u8 44,.int .u8 21,.int .u8 52,.int .u8 32,.int .u8 23,.int .u8 11,.int .u8 54,.int .u8 26,.int .u8 40,.int .u8 15,.int .u8 34,.int .u8 20,.int .u8 31,.int .u8 10,.int .u8 25,.int .u8 14,.int .u8 19,.int .u8 9,.int .u8 13,.int .u8 8,.int .u8 7,.int .u8 6] t frozen
   | o=>o).modify 1 fun
   | .cells _ t frozen=>.cells #[.int .u64 1,.int .u64 10,.int .u64 100,.int .u64 1000,.int .u64 10000,.int .u64 100000,.int .u64 1000000,.int .u64 10000000,.int .u64 100000000,.int .u64 1000000000,.int .u64 10000000000,.int .u64 100000000000,.int .u64 1000000000000,.int .u64 10000000000000,.int .u64 100000000000000,.int .u64 1000000000000000,.int .u64 10000000000000000,.int .u64 100000000000000000,.int .u64 1000000000000000000,.int .u64 10000000000000000000] t frozen
   | o=>o) }
theorem Zs0 (os:Os):laidMet Tryz.prog Rows.symExecPreservesRow.laid ((Zho os).forCall (fun _ _=>0) ⟨#[],#[Value.slice none 0 0,Value.int .i64 0,Value.int .i64 0,Value.int .i64 0],[]⟩).memory:=
 laidMet_of_run' 8 (by kernel_rfl) (by kernel_rfl)
theorem reads (os:Os) {H:Type} (enc:TypeId×Value->H):∃ places,DataW.whole enc Tryz.prog ((Zho os).forCall (fun _ _=>0) ⟨#[],#[Value.slice none 0 0,Value.int .i64 0,Value.int .i64 0,Value.int .i64 0],[]⟩).memory Tryz.f3.params.toList Rows.symExecPreservesSpec.vars false (#[Value.slice none 0 0,Value.int .i64 0,Value.int .i64 0,Value.int .i64 0]:Array Value).toList 8=some ([.nil,.lit (.int .i64 0),.lit (.int .i64 0),.lit (.int .i64 0)],[],places):=
 ⟨[],by kernel_rfl⟩
set_option maxRecDepth 100000 in
theorem Zs1 (H:Type) (enc:TypeId×Value->H) (W:World) (base:Nat) (args:Array Value) (ds gs:List (DataW H)) (before:List MemPlace)
 (hval0:∀ (j:Nat) t v,Tryz.f3.params[j]?=some t->args[j]?=some v->Value.okWide Tryz.prog W .any base t v)
 (hW:DataW.Whole enc Tryz.prog Tryz.f3.params.toList Rows.symExecPreservesSpec.vars false W args.toList ds gs before) (hL:laidMetH Tryz.prog Rows.symExecPreservesRow.laid W) :
 Calls Tryz.prog 3 args W fun e W'=>∃ v,e=.returned v/\Rows.symExecPreservesSpec.post enc Tryz.prog Tryz.f3 false true false false W args v W':=by
 have hval:∀ (j:Nat) t v,[22,3,3,2][j]?=some t->args[j]?=some v->Value.okWide Tryz.prog W .any base t v:=fun j t v hj hv=>hval0 j t v (by rw [<-Array.getElem?_toList,Tryz.params3];exact hj) hv;have hW':=hW;obtain ⟨p,q,hA0,hV,rfl,hfz,hnd⟩:=hW;have hA:DataW.TrodAll enc Tryz.prog W 0 (fun _=>true) true Tryz.f3.params.toList args.toList ds p:=hA0;rw [Tryz.params3] at hA;obtain ⟨v0,vs0,d0,ds0,p0,q0,hargs,rfl,rfl,h0,r0⟩:=trodAll_cons hA;obtain ⟨v1,vs1,d1,ds1,p1,q1,rfl,rfl,rfl,h1,r1⟩:=trodAll_cons r0;obtain ⟨v2,vs2,d2,ds2,p2,q2,rfl,rfl,rfl,h2,r2⟩:=trodAll_cons r1;obtain ⟨v3,vs3,d3,ds3,p3,q3,rfl,rfl,rfl,h3,r3⟩:=trodAll_cons r2;obtain ⟨rfl,rfl,rfl⟩:=trodAll_nil r3;obtain rfl:args=#[v0,v1,v2,v3]:=by cases args;simp_all
 obtain ⟨rfl,rfl⟩:=trodVars_none hV;obtain ⟨a0,ln0,cp0,rfl⟩:=okWide_slice Tryz.underlying22 (hval 0 22 v0 rfl rfl);obtain ⟨x0,e0,hb0,hw0⟩:=Eng.Z1K Tryz.underlying22 Tryz.underlying3 (by kernel_rfl) h0 rfl;rw [<-ZmW] at e0;obtain ⟨y1,rfl⟩:=okWide_int Tryz.underlying3 (hval 1 3 v1 rfl rfl);obtain ⟨x1,ee1,hw1⟩:=Eng.Z2s Tryz.underlying3 h1 rfl;obtain rfl:y1=x1:=by cases ee1;rfl
 have e1:VR (Gh.all W) (AV.int .i64 y1) (.int .i64 y1):=by simp only [VR]
 obtain ⟨y2,rfl⟩:=okWide_int Tryz.underlying3 (hval 2 3 v2 rfl rfl);obtain ⟨x2,ee2,hw2⟩:=Eng.Z2s Tryz.underlying3 h2 rfl;obtain rfl:y2=x2:=by cases ee2;rfl
 have e2:VR (Gh.all W) (AV.int .i64 y2) (.int .i64 y2):=by simp only [VR]
 obtain ⟨y3,rfl⟩:=okWide_int Tryz.underlying2 (hval 3 2 v3 rfl rfl);obtain ⟨x3,ee3,hw3⟩:=Eng.Z2s Tryz.underlying2 h3 rfl;obtain rfl:y3=x3:=by cases ee3;rfl
 have e3:VR (Gh.all W) (AV.int .i64 y3) (.int .i64 y3):=by simp only [VR]
 have hlt:=hW'.lt;simp only [List.append_nil] at hW' hlt;refine (Z4D x0 y1 y2 y3 hb0 (fun x hx=>wfI (hw0 x hx)) (wfI hw1) (wfI hw2) (wfI hw3) W hL _ (VRP.cons_iff.2 ⟨e0,VRP.cons_iff.2 ⟨e1,VRP.cons_iff.2 ⟨e2,VRP.cons_iff.2 ⟨e3,VRP.nil⟩⟩⟩⟩) rfl).mono fun e W' ⟨he,hb⟩=>?_;subst he;refine ⟨_,rfl,_,[],_,[],_,[],hW',?_,trodAll_cons_mk (Below.trod Zf5 (by kernel_rfl) (of_decide_eq_true (by kernel_rfl)) h0 hb (fun x hx=>hlt x (by simp only [List.mem_append];simp [hx]))) (trodAll_cons_mk (Below.trod Zf5 (by kernel_rfl) (of_decide_eq_true (by kernel_rfl)) h1 hb (fun x hx=>hlt x (by simp only [List.mem_append];simp [hx]))) (trodAll_cons_mk (Below.trod Zf5 (by kernel_rfl) (of_decide_eq_true (by kernel_rfl)) h2 hb (fun x hx=>hlt x (by simp only [List.mem_append];simp [hx]))) (trodAll_cons_mk (Below.trod Zf5 (by kernel_rfl) (of_decide_eq_true (by kernel_rfl)) h3 hb (fun x hx=>hlt x (by simp only [List.mem_append];simp [hx]))) trodAll_mk0))),rfl,hb.frame _,fun h=>by cases h⟩;exact trodAll_cons_mk (shut_bool Tryz.underlying4 _) trodAll_mk0
set_option maxRecDepth 100000 in
theorem ZzJ (os:Os) (started:os.Started) (H:Type) (enc:TypeId×Value->H) (F:Stop.Interp) :
 ReturnsInHanded {} Tryz.checked os 3 .any ((OpenSpec.ofChange Rows.symExecPreservesSpec).preRow enc Tryz.prog Tryz.f3 Rows.symExecPreservesRow.domain false Rows.symExecPreservesRow.laid) (((OpenSpec.ofChange Rows.symExecPreservesSpec).at F).post enc Tryz.prog Tryz.f3 false true false false):=by
 obtain ⟨places,hx⟩:=reads os enc;refine returnsInHanded_of_row (C:=Tryz.checked) (s:=OpenSpec.ofChange Rows.symExecPreservesSpec) own started (by kernel_rfl) Tryz.func3
  (witness_row_atRef (enc:=enc) (C:=Tryz.checked) false (Zho os) #[Value.slice none 0 0,Value.int .i64 0,Value.int .i64 0,Value.int .i64 0] rfl (by kernel_rfl) (by kernel_rfl) (by kernel_rfl)
   (OpenSpec.preRow_of_cond 8 hx (by kernel_rfl) (fun k hk=>by cases hk) (by kernel_rfl) (Zs0 os))) ?_
 intro W base args ds gs before hval hW _ _ _ hL _ _;exact Zs1 H enc W base args ds gs before hval hW hL
theorem Z4E:Rows.SymExecPreservesSaid:=
 OpenClaim.holds_of_cond 3 Tryz.f3 rfl rfl rfl rfl rfl rfl rfl ⟨rfl,rfl,rfl,rfl,rfl⟩ rfl rfl rfl rfl rfl (by kernel_rfl) Tryz.func3 (by kernel_rfl)
  (of_decide_eq_true (by kernel_rfl)) (by unfold Func.isWrapper;first | (rw [if_pos (by decide +kernel)];kernel_rfl) | (rw [if_neg (by decide +kernel)];exact ⟨rfl,rfl⟩))
  (fun os started H enc _ F=>by rw [OpenClaim.pre_eq_preRow];exact ZzJ os started H enc F)
theorem ws2:Tryz.pinned.checked.prog.wantsStandIn 2=false:=by kernel_rfl
theorem ws3:Tryz.pinned.checked.prog.wantsStandIn 3=false:=by kernel_rfl
theorem Z1P:Tryz.pinned.checked.prog.wantsStandIn 22=false:=by kernel_rfl
theorem Zlw (f : FuncId) (fn : Func) (hf : Tryz.pinned.checked.prog.funcNamed "fulling/fullinglaw39.SymExecPreserves" = some f) (hfn : Tryz.pinned.checked.prog.funcs[f]? = some fn) :
 false=Tryz.pinned.checked.prog.looks []/\∀ (j:Nat) t,fn.params[j]?=some t->Tryz.pinned.checked.prog.wantsStandIn t=false:=by
 obtain rfl : f = 3 := inj ((show Tryz.prog.funcNamed "fulling/fullinglaw39.SymExecPreserves" = some 3 by kernel_rfl).symm.trans hf) |>.symm
 obtain rfl:fn=Tryz.f3:=(inj (Tryz.func3.symm.trans hfn)).symm;refine ⟨by kernel_rfl,fun j t ht=>?_⟩;rw [<-Array.getElem?_toList,Tryz.params3] at ht;have hm:t∈[22,3,3,2]:=List.mem_of_getElem? ht;simp only [List.mem_cons,List.not_mem_nil,or_false] at hm;rcases hm with rfl | rfl | rfl | rfl
 ·exact Z1P
 ·exact ws3
 ·exact ws3
 ·exact ws2
theorem card:Rows.SymExecPreservesCardSaid:=
 Claim7.holds_tied_plain_at .later [] _ _ _ _ Z4E (fun _ h=>by cases h) (by kernel_rfl) (fun _ h=>by cases h) symExecPreserves_row_tie rfl ⟨rfl,rfl⟩ (by kernel_rfl) rfl Zlw (by kernel_rfl)
end Go.Proofs.YtipafbfdjfbkbaaGreatDoor.symExecPreserves
