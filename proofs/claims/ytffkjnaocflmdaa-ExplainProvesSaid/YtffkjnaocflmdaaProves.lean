/-
 ExplainProves returns true, whatever the arguments, the world and the tape. No conditions.
-/
import Derived.Test.YtffkjnaocflmdaaAcode
import Derived.Test.YtffkjnaocflmdaaPR
import Derived.Test.YtffkjnaocflmdaaEngArg
import Derived.Test.YtffkjnaocflmdaaRows
import Derived.ProofKit
import Derived.OpenShut
import Derived.Carry
import Derived.WideShapes
import Derived.KernelRfl
namespace Go.Proofs.Ytffkjnaocflmdaa.explainProves
open Go.ChangeShapes Go.WideShapes Go.ChangeAt Go.RowKit Go.Eng

theorem own : ownKnob Try.prog.godebug = none := by kernel_rfl
theorem noNum : Eng.NoNum Try.prog := Eng.noNum_of (by kernel_rfl)
theorem mixed : Try.prog.follows .mixedOrders = true := Try.checked.mixed
@[reducible] noncomputable def mx0 : Mx := ⟨fun _ _ => none, fun _ _ _ => false⟩
theorem computed : Eng.isV (.bool true) (@Eng.pureF mx0 Try.prog (@Eng.run gl mx0 (fun _ => false) (Eng.planOf (fun _ => false)) Try.prog 100000) 3 []) = true := by kernel_rfl
theorem mxOk0 : @Eng.MxOk gl mx0 Try.prog := fun f args v h => by
 replace h : (none : Option AV) = some v := h
 cases h
theorem known : Eng.PureOk Try.prog 3 [] (.bool true) := @Eng.run_pure gl mx0 Try.prog (fun _ => false) mixed mxOk0 noNum 100000 3 [] (.bool true) (Eng.isV_eq computed)
theorem mxOk : Eng.MxOk Try.prog := by
 intro f args v h
 replace h : (bif f.beq 3 then (match args with | [] => some (AV.bool true) | _ => none) else none) = some v := h
 cases hb : f.beq 3 with
 | false => rw [hb] at h; cases h
 | true =>
  rw [hb] at h
  have hf : f = 3 := Nat.eq_of_beq_eq_true hb
  subst hf
  cases args with
  | cons x l => cases h
  | nil =>
   cases h
   exact ⟨⟨_, Try.func3, by kernel_rfl⟩, known⟩
theorem pure' (x0 : List Int) (x1 : List Int) (x2 : Int) (x3 : Int) (x4 : Int) (x5 : Int) (x6 : Int) : Eng.PureOk Try.prog 6 [(AV.fs (List.flatMap (Ty.cells (.int .i64)) x0) (List.length x0)), (AV.fs (List.flatMap (Ty.cells (.int .i64)) x1) (List.length x1)), (AV.int .i64 x2), (AV.int .i64 x3), (AV.int .i64 x4), (AV.int .i64 x5), (AV.int .i64 x6)] (.bool true) :=
 Eng.pureF_ok mxOk (Eng.runI_ok mixed mxOk noNum) (s6 (x0, x1, x2, x3, x4, x5, x6) true (Go.Dat.F6_ok x0 x1 x2 x3 x4 x5 x6))

theorem walk (x0 : List Int) (x1 : List Int) (x2 : Int) (x3 : Int) (x4 : Int) (x5 : Int) (x6 : Int) (w : World) (vs : Array Value) (ha : VRP (Gh.all w) [(AV.fs (List.flatMap (Ty.cells (.int .i64)) x0) (List.length x0)), (AV.fs (List.flatMap (Ty.cells (.int .i64)) x1) (List.length x1)), (AV.int .i64 x2), (AV.int .i64 x3), (AV.int .i64 x4), (AV.int .i64 x5), (AV.int .i64 x6)] vs.toList) (hl : [(AV.fs (List.flatMap (Ty.cells (.int .i64)) x0) (List.length x0)), (AV.fs (List.flatMap (Ty.cells (.int .i64)) x1) (List.length x1)), (AV.int .i64 x2), (AV.int .i64 x3), (AV.int .i64 x4), (AV.int .i64 x5), (AV.int .i64 x6)].length = vs.size) : Calls Try.prog 6 vs w fun e w' => e = .returned (.bool true) ∧ Below w.heap.size w w' :=
 Eng.pure_law (pure' x0 x1 x2 x3 x4 x5 x6) (Gh.all w) w (Eng.PR.all fun g v h => by cases h) vs ha hl

theorem fm_int : ∀ l : List Int, List.flatMap (Ty.cells (.int .i64)) l = l.map (AV.int .i64)
 | [] => rfl
 | x :: l => by rw [List.map_cons, ← fm_int l]; rfl
theorem laidOut : laidOutB Try.prog = true := by kernel_rfl

set_option maxRecDepth 100000 in
theorem lifted (os : Os) (started : os.Started) (H : Type) (enc : TypeId × Value → H) :
  ReturnsInHanded {} Try.checked os 6 .any (Rows.explainProvesSpec.pre6 enc Try.prog Try.f6 Rows.explainProvesRow.domain false) (Rows.explainProvesSpec.post enc Try.prog Try.f6 false true false false) := by
 refine returnsInHanded_of_change (C := Try.checked) own started (by kernel_rfl) Try.func6
  (ChangeSpec.witness6 (enc := enc) (C := Try.checked) false ⟨#[], #[Value.slice none 0 0, Value.slice none 0 0, Value.int .i64 0, Value.int .i64 0, Value.int .i64 0, Value.int .i64 0, Value.int .i64 0], []⟩ 8 (by kernel_rfl) (by kernel_rfl) (by kernel_rfl) (by kernel_rfl)) ?_
 intro W base args ds gs before hval0 hW hcnd _
 have hval : ∀ (j : Nat) t v, [28, 28, 3, 3, 3, 3, 3][j]? = some t → args[j]? = some v → Value.okWide Try.prog W .any base t v := fun j t v hj hv => hval0 j t v (by rw [← Array.getElem?_toList, Try.params6]; exact hj) hv
 have hW' := hW
 obtain ⟨p, q, hA0, hV, rfl, hfz, hnd⟩ := hW
 have hA : DataW.TrodAll enc Try.prog W 0 (fun _ => true) true Try.f6.params.toList args.toList ds p := hA0
 rw [Try.params6] at hA
 obtain ⟨v0, vs0, d0, ds0, p0, q0, hargs, rfl, rfl, h0, r0⟩ := trodAll_cons hA
 obtain ⟨v1, vs1, d1, ds1, p1, q1, rfl, rfl, rfl, h1, r1⟩ := trodAll_cons r0
 obtain ⟨v2, vs2, d2, ds2, p2, q2, rfl, rfl, rfl, h2, r2⟩ := trodAll_cons r1
 obtain ⟨v3, vs3, d3, ds3, p3, q3, rfl, rfl, rfl, h3, r3⟩ := trodAll_cons r2
 obtain ⟨v4, vs4, d4, ds4, p4, q4, rfl, rfl, rfl, h4, r4⟩ := trodAll_cons r3
 obtain ⟨v5, vs5, d5, ds5, p5, q5, rfl, rfl, rfl, h5, r5⟩ := trodAll_cons r4
 obtain ⟨v6, vs6, d6, ds6, p6, q6, rfl, rfl, rfl, h6, r6⟩ := trodAll_cons r5
 obtain ⟨rfl, rfl, rfl⟩ := trodAll_nil r6
 obtain rfl : args = #[v0, v1, v2, v3, v4, v5, v6] := by cases args; simp_all
 obtain ⟨rfl, rfl⟩ := trodVars_none hV
 obtain ⟨a0, ln0, cp0, rfl⟩ := okWide_slice Try.underlying28 (hval 0 28 v0 rfl rfl)
 obtain ⟨x0, e0, hb0⟩ := Eng.ints_vr Try.underlying28 Try.underlying3 (by kernel_rfl) h0 rfl
 rw [← fm_int] at e0
 obtain ⟨a1, ln1, cp1, rfl⟩ := okWide_slice Try.underlying28 (hval 1 28 v1 rfl rfl)
 obtain ⟨x1, e1, hb1⟩ := Eng.ints_vr Try.underlying28 Try.underlying3 (by kernel_rfl) h1 rfl
 rw [← fm_int] at e1
 obtain ⟨x2, rfl⟩ := okWide_int Try.underlying3 (hval 2 3 v2 rfl rfl)
 have e2 : VR (Gh.all W) (AV.int .i64 x2) (.int .i64 x2) := by simp only [VR]
 obtain ⟨x3, rfl⟩ := okWide_int Try.underlying3 (hval 3 3 v3 rfl rfl)
 have e3 : VR (Gh.all W) (AV.int .i64 x3) (.int .i64 x3) := by simp only [VR]
 obtain ⟨x4, rfl⟩ := okWide_int Try.underlying3 (hval 4 3 v4 rfl rfl)
 have e4 : VR (Gh.all W) (AV.int .i64 x4) (.int .i64 x4) := by simp only [VR]
 obtain ⟨x5, rfl⟩ := okWide_int Try.underlying3 (hval 5 3 v5 rfl rfl)
 have e5 : VR (Gh.all W) (AV.int .i64 x5) (.int .i64 x5) := by simp only [VR]
 obtain ⟨x6, rfl⟩ := okWide_int Try.underlying3 (hval 6 3 v6 rfl rfl)
 have e6 : VR (Gh.all W) (AV.int .i64 x6) (.int .i64 x6) := by simp only [VR]
 have hlt := hW'.lt
 simp only [List.append_nil] at hW' hlt
 refine (walk x0 x1 x2 x3 x4 x5 x6 W _ (VRP.cons_iff.2 ⟨e0, VRP.cons_iff.2 ⟨e1, VRP.cons_iff.2 ⟨e2, VRP.cons_iff.2 ⟨e3, VRP.cons_iff.2 ⟨e4, VRP.cons_iff.2 ⟨e5, VRP.cons_iff.2 ⟨e6, VRP.nil⟩⟩⟩⟩⟩⟩⟩) rfl).mono fun e W' ⟨he, hb⟩ => ?_
 subst he
 refine ⟨_, rfl, _, [], _, [], _, [], hW', ?_, trodAll_cons_mk (Below.trod laidOut (by kernel_rfl) (of_decide_eq_true (by kernel_rfl)) h0 hb (fun x hx => hlt x (by simp only [List.mem_append]; simp [hx]))) (trodAll_cons_mk (Below.trod laidOut (by kernel_rfl) (of_decide_eq_true (by kernel_rfl)) h1 hb (fun x hx => hlt x (by simp only [List.mem_append]; simp [hx]))) (trodAll_cons_mk (Below.trod laidOut (by kernel_rfl) (of_decide_eq_true (by kernel_rfl)) h2 hb (fun x hx => hlt x (by simp only [List.mem_append]; simp [hx]))) (trodAll_cons_mk (Below.trod laidOut (by kernel_rfl) (of_decide_eq_true (by kernel_rfl)) h3 hb (fun x hx => hlt x (by simp only [List.mem_append]; simp [hx]))) (trodAll_cons_mk (Below.trod laidOut (by kernel_rfl) (of_decide_eq_true (by kernel_rfl)) h4 hb (fun x hx => hlt x (by simp only [List.mem_append]; simp [hx]))) (trodAll_cons_mk (Below.trod laidOut (by kernel_rfl) (of_decide_eq_true (by kernel_rfl)) h5 hb (fun x hx => hlt x (by simp only [List.mem_append]; simp [hx]))) (trodAll_cons_mk (Below.trod laidOut (by kernel_rfl) (of_decide_eq_true (by kernel_rfl)) h6 hb (fun x hx => hlt x (by simp only [List.mem_append]; simp [hx]))) trodAll_mk0)))))), rfl, hb.frame _, fun h => by cases h⟩
 exact trodAll_cons_mk (shut_bool Try.underlying4 _) trodAll_mk0

theorem over : Rows.explainProvesRow.holds Try.pinned (OpenSpec.ofChange Rows.explainProvesSpec) :=
 OpenClaim.holds_of_wide 6 Try.f6 rfl rfl rfl rfl rfl rfl rfl ⟨rfl, rfl, rfl, rfl, rfl⟩ rfl rfl rfl rfl rfl (by kernel_rfl) Try.func6 (by kernel_rfl)
  (of_decide_eq_true (by kernel_rfl)) (by unfold Func.isWrapper; first | (rw [if_pos (by decide +kernel)]; kernel_rfl) | (rw [if_neg (by decide +kernel)]; exact ⟨rfl, rfl⟩))
  (fun os started H enc _ => lifted os started H enc)

theorem proved : Rows.ExplainProvesSaid := over
end Go.Proofs.Ytffkjnaocflmdaa.explainProves
