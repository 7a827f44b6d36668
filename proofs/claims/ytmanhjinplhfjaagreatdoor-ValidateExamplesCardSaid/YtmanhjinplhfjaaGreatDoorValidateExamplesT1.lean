/-
  What is known up to level 1, and what level 2 speaks of.
-/
import Derived.Test.YtmanhjinplhfjaaGreatDoorValidateExamplesK1a
import Derived.Test.YtmanhjinplhfjaaGreatDoorValidateExamplesK1b
import Derived.Test.YtmanhjinplhfjaaGreatDoorValidateExamplesK1c
import Derived.Test.YtmanhjinplhfjaaGreatDoorValidateExamplesK1d
import Derived.Test.YtmanhjinplhfjaaGreatDoorValidateExamplesK1e
import Derived.Test.YtmanhjinplhfjaaGreatDoorValidateExamplesK1f
import Derived.Test.YtmanhjinplhfjaaGreatDoorValidateExamplesK1g
import Derived.Test.YtmanhjinplhfjaaGreatDoorValidateExamplesK1h
namespace Go.Proofs.YtmanhjinplhfjaaGreatDoor.validateExamples
theorem k0 : Eng.Known Tryz.prog e0 := Eng.known_of mixed (Eng.mxTab_ok spOk known0) noNum c0
theorem hb1 : Tryz.f114.body = some b1 := by kernel_rfl
theorem hb1w0 : Eng.codeAt b1 [1, 1, 0, 1, 0] = .loop b1w0 := by kernel_rfl
theorem h1w0o0p3 : Eng.HoL Tryz.prog Tryz.f114.ntmps b1w0 T1w0o0p3 S1w0o0p3 r1w0o0 := @Eng.HoL.ends _ (Eng.mxTab sp tab0) _ pol mixed (Eng.mxTab_ok spOk known0) noNum 100000 _ _ _ _ _ x1w0o0p3
theorem h1w0o0p2 : Eng.HoL Tryz.prog Tryz.f114.ntmps b1w0 T1w0o0p2 S1w0o0p2 r1w0o0 := @Eng.HoL.leads _ (Eng.mxTab sp tab0) _ pol mixed (Eng.mxTab_ok spOk known0) noNum 100000 _ 118 _ _ _ _ _ _ x1w0o0p2 h1w0o0p3
theorem h1w0o0p1 : Eng.HoL Tryz.prog Tryz.f114.ntmps b1w0 T1w0o0p1 S1w0o0p1 r1w0o0 := @Eng.HoL.leads _ (Eng.mxTab sp tab0) _ pol mixed (Eng.mxTab_ok spOk known0) noNum 100000 _ 151 _ _ _ _ _ _ x1w0o0p1 h1w0o0p2
theorem h1w0o0p0 : Eng.HoL Tryz.prog Tryz.f114.ntmps b1w0 T1w0o0p0 S1w0o0p0 r1w0o0 := @Eng.HoL.leads _ (Eng.mxTab sp tab0) _ pol mixed (Eng.mxTab_ok spOk known0) noNum 100000 _ 147 _ _ _ _ _ _ x1w0o0p0 h1w0o0p1
theorem lp1 : Eng.LpOk Tryz.prog Tryz.f114.ntmps (Eng.lookL l1) b1 p1 := by haveI : Eng.Mx := (Eng.mxTab sp tab0); exact Eng.lookL_ok (tab := l1) (ps := p1) (Eng.known_consL (Eng.known_consW (fun _ => by show Eng.Ho _ _ (Eng.codeAt b1 _) _ _ _; rw [hb1w0]; exact h1w0o0p0.ho) Eng.known_nilW) Eng.known_nilL)
theorem k1 : Eng.Known Tryz.prog e1 := @Eng.known_marks _ (Eng.mxTab sp tab0) Tryz.prog pol 100000 100000 114 Tryz.f114 b1 _ _ (Eng.lookL l1) p1 mixed (Eng.mxTab_ok spOk known0) noNum Tryz.func114 hb1 (by kernel_rfl) lp1 c1
theorem k2 : Eng.Known Tryz.prog e2 := Eng.known_of mixed (Eng.mxTab_ok spOk known0) noNum c2
theorem k3 : Eng.Known Tryz.prog e3 := Eng.known_of mixed (Eng.mxTab_ok spOk known0) noNum c3
theorem k4 : Eng.Known Tryz.prog e4 := Eng.known_of mixed (Eng.mxTab_ok spOk known0) noNum c4
theorem k5 : Eng.Known Tryz.prog e5 := Eng.known_of mixed (Eng.mxTab_ok spOk known0) noNum c5
theorem k6 : Eng.Known Tryz.prog e6 := Eng.known_of mixed (Eng.mxTab_ok spOk known0) noNum c6
theorem k7 : Eng.Known Tryz.prog e7 := Eng.known_of mixed (Eng.mxTab_ok spOk known0) noNum c7
theorem k8 : Eng.Known Tryz.prog e8 := Eng.known_of mixed (Eng.mxTab_ok spOk known0) noNum c8
theorem k9 : Eng.Known Tryz.prog e9 := Eng.known_of mixed (Eng.mxTab_ok spOk known0) noNum c9
theorem k10 : Eng.Known Tryz.prog e10 := Eng.known_of mixed (Eng.mxTab_ok spOk known0) noNum c10
theorem k11 : Eng.Known Tryz.prog e11 := Eng.known_of mixed (Eng.mxTab_ok spOk known0) noNum c11
theorem k12 : Eng.Known Tryz.prog e12 := Eng.known_of mixed (Eng.mxTab_ok spOk known0) noNum c12
theorem k13 : Eng.Known Tryz.prog e13 := Eng.known_of mixed (Eng.mxTab_ok spOk known0) noNum c13
theorem k14 : Eng.Known Tryz.prog e14 := Eng.known_of mixed (Eng.mxTab_ok spOk known0) noNum c14
theorem k15 : Eng.Known Tryz.prog e15 := Eng.known_of mixed (Eng.mxTab_ok spOk known0) noNum c15
theorem k16 : Eng.Known Tryz.prog e16 := Eng.known_of mixed (Eng.mxTab_ok spOk known0) noNum c16
theorem k17 : Eng.Known Tryz.prog e17 := Eng.known_of mixed (Eng.mxTab_ok spOk known0) noNum c17
theorem k18 : Eng.Known Tryz.prog e18 := Eng.known_of mixed (Eng.mxTab_ok spOk known0) noNum c18
theorem k20 : Eng.Known Tryz.prog e20 := Eng.known_of mixed (Eng.mxTab_ok spOk known0) noNum c20
theorem k22 : Eng.Known Tryz.prog e22 := Eng.known_of mixed (Eng.mxTab_ok spOk known0) noNum c22
theorem k24 : Eng.Known Tryz.prog e24 := Eng.known_of mixed (Eng.mxTab_ok spOk known0) noNum c24
theorem k26 : Eng.Known Tryz.prog e26 := Eng.known_of mixed (Eng.mxTab_ok spOk known0) noNum c26
theorem k28 : Eng.Known Tryz.prog e28 := Eng.known_of mixed (Eng.mxTab_ok spOk known0) noNum c28
theorem k30 : Eng.Known Tryz.prog e30 := Eng.known_of mixed (Eng.mxTab_ok spOk known0) noNum c30
theorem k32 : Eng.Known Tryz.prog e32 := Eng.known_of mixed (Eng.mxTab_ok spOk known0) noNum c32
theorem k34 : Eng.Known Tryz.prog e34 := Eng.known_of mixed (Eng.mxTab_ok spOk known0) noNum c34
theorem k36 : Eng.Known Tryz.prog e36 := Eng.known_of mixed (Eng.mxTab_ok spOk known0) noNum c36
theorem k38 : Eng.Known Tryz.prog e38 := Eng.known_of mixed (Eng.mxTab_ok spOk known0) noNum c38
theorem k40 : Eng.Known Tryz.prog e40 := Eng.known_of mixed (Eng.mxTab_ok spOk known0) noNum c40
theorem k43 : Eng.Known Tryz.prog e43 := Eng.known_of mixed (Eng.mxTab_ok spOk known0) noNum c43
theorem k45 : Eng.Known Tryz.prog e45 := Eng.known_of mixed (Eng.mxTab_ok spOk known0) noNum c45
theorem k47 : Eng.Known Tryz.prog e47 := Eng.known_of mixed (Eng.mxTab_ok spOk known0) noNum c47
theorem k48 : Eng.Known Tryz.prog e48 := Eng.known_of mixed (Eng.mxTab_ok spOk known0) noNum c48
theorem k50 : Eng.Known Tryz.prog e50 := Eng.known_of mixed (Eng.mxTab_ok spOk known0) noNum c50
theorem k52 : Eng.Known Tryz.prog e52 := Eng.known_of mixed (Eng.mxTab_ok spOk known0) noNum c52
theorem k54 : Eng.Known Tryz.prog e54 := Eng.known_of mixed (Eng.mxTab_ok spOk known0) noNum c54
theorem k56 : Eng.Known Tryz.prog e56 := Eng.known_of mixed (Eng.mxTab_ok spOk known0) noNum c56
theorem k58 : Eng.Known Tryz.prog e58 := Eng.known_of mixed (Eng.mxTab_ok spOk known0) noNum c58
theorem k60 : Eng.Known Tryz.prog e60 := Eng.known_of mixed (Eng.mxTab_ok spOk known0) noNum c60
theorem k62 : Eng.Known Tryz.prog e62 := Eng.known_of mixed (Eng.mxTab_ok spOk known0) noNum c62
theorem k64 : Eng.Known Tryz.prog e64 := Eng.known_of mixed (Eng.mxTab_ok spOk known0) noNum c64
theorem k66 : Eng.Known Tryz.prog e66 := Eng.known_of mixed (Eng.mxTab_ok spOk known0) noNum c66
theorem hb72 : Tryz.f60.body = some b72 := by kernel_rfl
theorem hb72w0 : Eng.codeAt b72 [1, 1, 1, 1, 1, 1, 0, 1, 0] = .loop b72w0 := by kernel_rfl
theorem h72w0o0p1 : Eng.HoL Tryz.prog Tryz.f60.ntmps b72w0 T72w0o0p1 S72w0o0p1 r72w0o0 := @Eng.HoL.ends _ (Eng.mxTab sp tab0) _ pol mixed (Eng.mxTab_ok spOk known0) noNum 100000 _ _ _ _ _ x72w0o0p1
theorem h72w0o0p0 : Eng.HoL Tryz.prog Tryz.f60.ntmps b72w0 T72w0o0p0 S72w0o0p0 r72w0o0 := @Eng.HoL.leads _ (Eng.mxTab sp tab0) _ pol mixed (Eng.mxTab_ok spOk known0) noNum 100000 _ 3 _ _ _ _ _ _ x72w0o0p0 h72w0o0p1
theorem lp72 : Eng.LpOk Tryz.prog Tryz.f60.ntmps (Eng.lookL l72) b72 p72 := by haveI : Eng.Mx := (Eng.mxTab sp tab0); exact Eng.lookL_ok (tab := l72) (ps := p72) (Eng.known_consL (Eng.known_consW (fun _ => by show Eng.Ho _ _ (Eng.codeAt b72 _) _ _ _; rw [hb72w0]; exact h72w0o0p0.ho) Eng.known_nilW) Eng.known_nilL)
theorem k72 : Eng.Known Tryz.prog e72 := @Eng.known_marks _ (Eng.mxTab sp tab0) Tryz.prog pol 100000 100000 60 Tryz.f60 b72 _ _ (Eng.lookL l72) p72 mixed (Eng.mxTab_ok spOk known0) noNum Tryz.func60 hb72 (by kernel_rfl) lp72 c72
theorem k74 : Eng.Known Tryz.prog e74 := Eng.known_of mixed (Eng.mxTab_ok spOk known0) noNum c74
theorem hb75 : Tryz.f429.body = some b75 := by kernel_rfl
theorem hb75w0 : Eng.codeAt b75 [1, 1, 1, 1, 0, 1, 0] = .loop b75w0 := by kernel_rfl
theorem h75w0o0p1 : Eng.HoL Tryz.prog Tryz.f429.ntmps b75w0 T75w0o0p1 S75w0o0p1 r75w0o0 := @Eng.HoL.ends _ (Eng.mxTab sp tab0) _ pol mixed (Eng.mxTab_ok spOk known0) noNum 100000 _ _ _ _ _ x75w0o0p1
theorem h75w0o0p0 : Eng.HoL Tryz.prog Tryz.f429.ntmps b75w0 T75w0o0p0 S75w0o0p0 r75w0o0 := @Eng.HoL.leads _ (Eng.mxTab sp tab0) _ pol mixed (Eng.mxTab_ok spOk known0) noNum 100000 _ 5 _ _ _ _ _ _ x75w0o0p0 h75w0o0p1
theorem lp75 : Eng.LpOk Tryz.prog Tryz.f429.ntmps (Eng.lookL l75) b75 p75 := by haveI : Eng.Mx := (Eng.mxTab sp tab0); exact Eng.lookL_ok (tab := l75) (ps := p75) (Eng.known_consL (Eng.known_consW (fun _ => by show Eng.Ho _ _ (Eng.codeAt b75 _) _ _ _; rw [hb75w0]; exact h75w0o0p0.ho) Eng.known_nilW) Eng.known_nilL)
theorem k75 : Eng.Known Tryz.prog e75 := @Eng.known_marks _ (Eng.mxTab sp tab0) Tryz.prog pol 100000 100000 429 Tryz.f429 b75 _ _ (Eng.lookL l75) p75 mixed (Eng.mxTab_ok spOk known0) noNum Tryz.func429 hb75 (by kernel_rfl) lp75 c75
theorem hb76 : Tryz.f429.body = some b76 := by kernel_rfl
theorem hb76w0 : Eng.codeAt b76 [1, 1, 1, 1, 0, 1, 0] = .loop b76w0 := by kernel_rfl
theorem h76w0o0p1 : Eng.HoL Tryz.prog Tryz.f429.ntmps b76w0 T76w0o0p1 S76w0o0p1 r76w0o0 := @Eng.HoL.ends _ (Eng.mxTab sp tab0) _ pol mixed (Eng.mxTab_ok spOk known0) noNum 100000 _ _ _ _ _ x76w0o0p1
theorem h76w0o0p0 : Eng.HoL Tryz.prog Tryz.f429.ntmps b76w0 T76w0o0p0 S76w0o0p0 r76w0o0 := @Eng.HoL.leads _ (Eng.mxTab sp tab0) _ pol mixed (Eng.mxTab_ok spOk known0) noNum 100000 _ 5 _ _ _ _ _ _ x76w0o0p0 h76w0o0p1
theorem lp76 : Eng.LpOk Tryz.prog Tryz.f429.ntmps (Eng.lookL l76) b76 p76 := by haveI : Eng.Mx := (Eng.mxTab sp tab0); exact Eng.lookL_ok (tab := l76) (ps := p76) (Eng.known_consL (Eng.known_consW (fun _ => by show Eng.Ho _ _ (Eng.codeAt b76 _) _ _ _; rw [hb76w0]; exact h76w0o0p0.ho) Eng.known_nilW) Eng.known_nilL)
theorem k76 : Eng.Known Tryz.prog e76 := @Eng.known_marks _ (Eng.mxTab sp tab0) Tryz.prog pol 100000 100000 429 Tryz.f429 b76 _ _ (Eng.lookL l76) p76 mixed (Eng.mxTab_ok spOk known0) noNum Tryz.func429 hb76 (by kernel_rfl) lp76 c76
theorem hb77 : Tryz.f429.body = some b77 := by kernel_rfl
theorem hb77w0 : Eng.codeAt b77 [1, 1, 1, 1, 0, 1, 0] = .loop b77w0 := by kernel_rfl
theorem h77w0o0p1 : Eng.HoL Tryz.prog Tryz.f429.ntmps b77w0 T77w0o0p1 S77w0o0p1 r77w0o0 := @Eng.HoL.ends _ (Eng.mxTab sp tab0) _ pol mixed (Eng.mxTab_ok spOk known0) noNum 100000 _ _ _ _ _ x77w0o0p1
theorem h77w0o0p0 : Eng.HoL Tryz.prog Tryz.f429.ntmps b77w0 T77w0o0p0 S77w0o0p0 r77w0o0 := @Eng.HoL.leads _ (Eng.mxTab sp tab0) _ pol mixed (Eng.mxTab_ok spOk known0) noNum 100000 _ 5 _ _ _ _ _ _ x77w0o0p0 h77w0o0p1
theorem lp77 : Eng.LpOk Tryz.prog Tryz.f429.ntmps (Eng.lookL l77) b77 p77 := by haveI : Eng.Mx := (Eng.mxTab sp tab0); exact Eng.lookL_ok (tab := l77) (ps := p77) (Eng.known_consL (Eng.known_consW (fun _ => by show Eng.Ho _ _ (Eng.codeAt b77 _) _ _ _; rw [hb77w0]; exact h77w0o0p0.ho) Eng.known_nilW) Eng.known_nilL)
theorem k77 : Eng.Known Tryz.prog e77 := @Eng.known_marks _ (Eng.mxTab sp tab0) Tryz.prog pol 100000 100000 429 Tryz.f429 b77 _ _ (Eng.lookL l77) p77 mixed (Eng.mxTab_ok spOk known0) noNum Tryz.func429 hb77 (by kernel_rfl) lp77 c77
theorem hb78 : Tryz.f429.body = some b78 := by kernel_rfl
theorem hb78w0 : Eng.codeAt b78 [1, 1, 1, 1, 0, 1, 0] = .loop b78w0 := by kernel_rfl
theorem h78w0o0p1 : Eng.HoL Tryz.prog Tryz.f429.ntmps b78w0 T78w0o0p1 S78w0o0p1 r78w0o0 := @Eng.HoL.ends _ (Eng.mxTab sp tab0) _ pol mixed (Eng.mxTab_ok spOk known0) noNum 100000 _ _ _ _ _ x78w0o0p1
theorem h78w0o0p0 : Eng.HoL Tryz.prog Tryz.f429.ntmps b78w0 T78w0o0p0 S78w0o0p0 r78w0o0 := @Eng.HoL.leads _ (Eng.mxTab sp tab0) _ pol mixed (Eng.mxTab_ok spOk known0) noNum 100000 _ 5 _ _ _ _ _ _ x78w0o0p0 h78w0o0p1
theorem lp78 : Eng.LpOk Tryz.prog Tryz.f429.ntmps (Eng.lookL l78) b78 p78 := by haveI : Eng.Mx := (Eng.mxTab sp tab0); exact Eng.lookL_ok (tab := l78) (ps := p78) (Eng.known_consL (Eng.known_consW (fun _ => by show Eng.Ho _ _ (Eng.codeAt b78 _) _ _ _; rw [hb78w0]; exact h78w0o0p0.ho) Eng.known_nilW) Eng.known_nilL)
theorem k78 : Eng.Known Tryz.prog e78 := @Eng.known_marks _ (Eng.mxTab sp tab0) Tryz.prog pol 100000 100000 429 Tryz.f429 b78 _ _ (Eng.lookL l78) p78 mixed (Eng.mxTab_ok spOk known0) noNum Tryz.func429 hb78 (by kernel_rfl) lp78 c78
theorem k79 : Eng.Known Tryz.prog e79 := Eng.known_of mixed (Eng.mxTab_ok spOk known0) noNum c79
theorem hb80 : Tryz.f429.body = some b80 := by kernel_rfl
theorem hb80w0 : Eng.codeAt b80 [1, 1, 1, 1, 0, 1, 0] = .loop b80w0 := by kernel_rfl
theorem h80w0o0p1 : Eng.HoL Tryz.prog Tryz.f429.ntmps b80w0 T80w0o0p1 S80w0o0p1 r80w0o0 := @Eng.HoL.ends _ (Eng.mxTab sp tab0) _ pol mixed (Eng.mxTab_ok spOk known0) noNum 100000 _ _ _ _ _ x80w0o0p1
theorem h80w0o0p0 : Eng.HoL Tryz.prog Tryz.f429.ntmps b80w0 T80w0o0p0 S80w0o0p0 r80w0o0 := @Eng.HoL.leads _ (Eng.mxTab sp tab0) _ pol mixed (Eng.mxTab_ok spOk known0) noNum 100000 _ 5 _ _ _ _ _ _ x80w0o0p0 h80w0o0p1
theorem lp80 : Eng.LpOk Tryz.prog Tryz.f429.ntmps (Eng.lookL l80) b80 p80 := by haveI : Eng.Mx := (Eng.mxTab sp tab0); exact Eng.lookL_ok (tab := l80) (ps := p80) (Eng.known_consL (Eng.known_consW (fun _ => by show Eng.Ho _ _ (Eng.codeAt b80 _) _ _ _; rw [hb80w0]; exact h80w0o0p0.ho) Eng.known_nilW) Eng.known_nilL)
theorem k80 : Eng.Known Tryz.prog e80 := @Eng.known_marks _ (Eng.mxTab sp tab0) Tryz.prog pol 100000 100000 429 Tryz.f429 b80 _ _ (Eng.lookL l80) p80 mixed (Eng.mxTab_ok spOk known0) noNum Tryz.func429 hb80 (by kernel_rfl) lp80 c80
theorem hb81 : Tryz.f429.body = some b81 := by kernel_rfl
theorem hb81w0 : Eng.codeAt b81 [1, 1, 1, 1, 0, 1, 0] = .loop b81w0 := by kernel_rfl
theorem h81w0o0p1 : Eng.HoL Tryz.prog Tryz.f429.ntmps b81w0 T81w0o0p1 S81w0o0p1 r81w0o0 := @Eng.HoL.ends _ (Eng.mxTab sp tab0) _ pol mixed (Eng.mxTab_ok spOk known0) noNum 100000 _ _ _ _ _ x81w0o0p1
theorem h81w0o0p0 : Eng.HoL Tryz.prog Tryz.f429.ntmps b81w0 T81w0o0p0 S81w0o0p0 r81w0o0 := @Eng.HoL.leads _ (Eng.mxTab sp tab0) _ pol mixed (Eng.mxTab_ok spOk known0) noNum 100000 _ 5 _ _ _ _ _ _ x81w0o0p0 h81w0o0p1
theorem lp81 : Eng.LpOk Tryz.prog Tryz.f429.ntmps (Eng.lookL l81) b81 p81 := by haveI : Eng.Mx := (Eng.mxTab sp tab0); exact Eng.lookL_ok (tab := l81) (ps := p81) (Eng.known_consL (Eng.known_consW (fun _ => by show Eng.Ho _ _ (Eng.codeAt b81 _) _ _ _; rw [hb81w0]; exact h81w0o0p0.ho) Eng.known_nilW) Eng.known_nilL)
theorem k81 : Eng.Known Tryz.prog e81 := @Eng.known_marks _ (Eng.mxTab sp tab0) Tryz.prog pol 100000 100000 429 Tryz.f429 b81 _ _ (Eng.lookL l81) p81 mixed (Eng.mxTab_ok spOk known0) noNum Tryz.func429 hb81 (by kernel_rfl) lp81 c81
theorem hb82 : Tryz.f429.body = some b82 := by kernel_rfl
theorem hb82w0 : Eng.codeAt b82 [1, 1, 1, 1, 0, 1, 0] = .loop b82w0 := by kernel_rfl
theorem h82w0o0p1 : Eng.HoL Tryz.prog Tryz.f429.ntmps b82w0 T82w0o0p1 S82w0o0p1 r82w0o0 := @Eng.HoL.ends _ (Eng.mxTab sp tab0) _ pol mixed (Eng.mxTab_ok spOk known0) noNum 100000 _ _ _ _ _ x82w0o0p1
theorem h82w0o0p0 : Eng.HoL Tryz.prog Tryz.f429.ntmps b82w0 T82w0o0p0 S82w0o0p0 r82w0o0 := @Eng.HoL.leads _ (Eng.mxTab sp tab0) _ pol mixed (Eng.mxTab_ok spOk known0) noNum 100000 _ 5 _ _ _ _ _ _ x82w0o0p0 h82w0o0p1
theorem lp82 : Eng.LpOk Tryz.prog Tryz.f429.ntmps (Eng.lookL l82) b82 p82 := by haveI : Eng.Mx := (Eng.mxTab sp tab0); exact Eng.lookL_ok (tab := l82) (ps := p82) (Eng.known_consL (Eng.known_consW (fun _ => by show Eng.Ho _ _ (Eng.codeAt b82 _) _ _ _; rw [hb82w0]; exact h82w0o0p0.ho) Eng.known_nilW) Eng.known_nilL)
theorem k82 : Eng.Known Tryz.prog e82 := @Eng.known_marks _ (Eng.mxTab sp tab0) Tryz.prog pol 100000 100000 429 Tryz.f429 b82 _ _ (Eng.lookL l82) p82 mixed (Eng.mxTab_ok spOk known0) noNum Tryz.func429 hb82 (by kernel_rfl) lp82 c82
theorem hb83 : Tryz.f429.body = some b83 := by kernel_rfl
theorem hb83w0 : Eng.codeAt b83 [1, 1, 1, 1, 0, 1, 0] = .loop b83w0 := by kernel_rfl
theorem h83w0o0p1 : Eng.HoL Tryz.prog Tryz.f429.ntmps b83w0 T83w0o0p1 S83w0o0p1 r83w0o0 := @Eng.HoL.ends _ (Eng.mxTab sp tab0) _ pol mixed (Eng.mxTab_ok spOk known0) noNum 100000 _ _ _ _ _ x83w0o0p1
theorem h83w0o0p0 : Eng.HoL Tryz.prog Tryz.f429.ntmps b83w0 T83w0o0p0 S83w0o0p0 r83w0o0 := @Eng.HoL.leads _ (Eng.mxTab sp tab0) _ pol mixed (Eng.mxTab_ok spOk known0) noNum 100000 _ 5 _ _ _ _ _ _ x83w0o0p0 h83w0o0p1
theorem lp83 : Eng.LpOk Tryz.prog Tryz.f429.ntmps (Eng.lookL l83) b83 p83 := by haveI : Eng.Mx := (Eng.mxTab sp tab0); exact Eng.lookL_ok (tab := l83) (ps := p83) (Eng.known_consL (Eng.known_consW (fun _ => by show Eng.Ho _ _ (Eng.codeAt b83 _) _ _ _; rw [hb83w0]; exact h83w0o0p0.ho) Eng.known_nilW) Eng.known_nilL)
theorem k83 : Eng.Known Tryz.prog e83 := @Eng.known_marks _ (Eng.mxTab sp tab0) Tryz.prog pol 100000 100000 429 Tryz.f429 b83 _ _ (Eng.lookL l83) p83 mixed (Eng.mxTab_ok spOk known0) noNum Tryz.func429 hb83 (by kernel_rfl) lp83 c83
theorem hb84 : Tryz.f429.body = some b84 := by kernel_rfl
theorem hb84w0 : Eng.codeAt b84 [1, 1, 1, 1, 0, 1, 0] = .loop b84w0 := by kernel_rfl
theorem h84w0o0p1 : Eng.HoL Tryz.prog Tryz.f429.ntmps b84w0 T84w0o0p1 S84w0o0p1 r84w0o0 := @Eng.HoL.ends _ (Eng.mxTab sp tab0) _ pol mixed (Eng.mxTab_ok spOk known0) noNum 100000 _ _ _ _ _ x84w0o0p1
theorem h84w0o0p0 : Eng.HoL Tryz.prog Tryz.f429.ntmps b84w0 T84w0o0p0 S84w0o0p0 r84w0o0 := @Eng.HoL.leads _ (Eng.mxTab sp tab0) _ pol mixed (Eng.mxTab_ok spOk known0) noNum 100000 _ 5 _ _ _ _ _ _ x84w0o0p0 h84w0o0p1
theorem lp84 : Eng.LpOk Tryz.prog Tryz.f429.ntmps (Eng.lookL l84) b84 p84 := by haveI : Eng.Mx := (Eng.mxTab sp tab0); exact Eng.lookL_ok (tab := l84) (ps := p84) (Eng.known_consL (Eng.known_consW (fun _ => by show Eng.Ho _ _ (Eng.codeAt b84 _) _ _ _; rw [hb84w0]; exact h84w0o0p0.ho) Eng.known_nilW) Eng.known_nilL)
theorem k84 : Eng.Known Tryz.prog e84 := @Eng.known_marks _ (Eng.mxTab sp tab0) Tryz.prog pol 100000 100000 429 Tryz.f429 b84 _ _ (Eng.lookL l84) p84 mixed (Eng.mxTab_ok spOk known0) noNum Tryz.func429 hb84 (by kernel_rfl) lp84 c84
theorem hb85 : Tryz.f429.body = some b85 := by kernel_rfl
theorem hb85w0 : Eng.codeAt b85 [1, 1, 1, 1, 0, 1, 0] = .loop b85w0 := by kernel_rfl
theorem h85w0o0p1 : Eng.HoL Tryz.prog Tryz.f429.ntmps b85w0 T85w0o0p1 S85w0o0p1 r85w0o0 := @Eng.HoL.ends _ (Eng.mxTab sp tab0) _ pol mixed (Eng.mxTab_ok spOk known0) noNum 100000 _ _ _ _ _ x85w0o0p1
theorem h85w0o0p0 : Eng.HoL Tryz.prog Tryz.f429.ntmps b85w0 T85w0o0p0 S85w0o0p0 r85w0o0 := @Eng.HoL.leads _ (Eng.mxTab sp tab0) _ pol mixed (Eng.mxTab_ok spOk known0) noNum 100000 _ 5 _ _ _ _ _ _ x85w0o0p0 h85w0o0p1
theorem lp85 : Eng.LpOk Tryz.prog Tryz.f429.ntmps (Eng.lookL l85) b85 p85 := by haveI : Eng.Mx := (Eng.mxTab sp tab0); exact Eng.lookL_ok (tab := l85) (ps := p85) (Eng.known_consL (Eng.known_consW (fun _ => by show Eng.Ho _ _ (Eng.codeAt b85 _) _ _ _; rw [hb85w0]; exact h85w0o0p0.ho) Eng.known_nilW) Eng.known_nilL)
theorem k85 : Eng.Known Tryz.prog e85 := @Eng.known_marks _ (Eng.mxTab sp tab0) Tryz.prog pol 100000 100000 429 Tryz.f429 b85 _ _ (Eng.lookL l85) p85 mixed (Eng.mxTab_ok spOk known0) noNum Tryz.func429 hb85 (by kernel_rfl) lp85 c85
theorem hb86 : Tryz.f429.body = some b86 := by kernel_rfl
theorem hb86w0 : Eng.codeAt b86 [1, 1, 1, 1, 0, 1, 0] = .loop b86w0 := by kernel_rfl
theorem h86w0o0p1 : Eng.HoL Tryz.prog Tryz.f429.ntmps b86w0 T86w0o0p1 S86w0o0p1 r86w0o0 := @Eng.HoL.ends _ (Eng.mxTab sp tab0) _ pol mixed (Eng.mxTab_ok spOk known0) noNum 100000 _ _ _ _ _ x86w0o0p1
theorem h86w0o0p0 : Eng.HoL Tryz.prog Tryz.f429.ntmps b86w0 T86w0o0p0 S86w0o0p0 r86w0o0 := @Eng.HoL.leads _ (Eng.mxTab sp tab0) _ pol mixed (Eng.mxTab_ok spOk known0) noNum 100000 _ 4 _ _ _ _ _ _ x86w0o0p0 h86w0o0p1
theorem lp86 : Eng.LpOk Tryz.prog Tryz.f429.ntmps (Eng.lookL l86) b86 p86 := by haveI : Eng.Mx := (Eng.mxTab sp tab0); exact Eng.lookL_ok (tab := l86) (ps := p86) (Eng.known_consL (Eng.known_consW (fun _ => by show Eng.Ho _ _ (Eng.codeAt b86 _) _ _ _; rw [hb86w0]; exact h86w0o0p0.ho) Eng.known_nilW) Eng.known_nilL)
theorem k86 : Eng.Known Tryz.prog e86 := @Eng.known_marks _ (Eng.mxTab sp tab0) Tryz.prog pol 100000 100000 429 Tryz.f429 b86 _ _ (Eng.lookL l86) p86 mixed (Eng.mxTab_ok spOk known0) noNum Tryz.func429 hb86 (by kernel_rfl) lp86 c86
theorem k89 : Eng.Known Tryz.prog e89 := Eng.known_of mixed (Eng.mxTab_ok spOk known0) noNum c89
theorem k92 : Eng.Known Tryz.prog e92 := Eng.known_of mixed (Eng.mxTab_ok spOk known0) noNum c92
theorem k93 : Eng.Known Tryz.prog e93 := Eng.known_of mixed (Eng.mxTab_ok spOk known0) noNum c93
theorem k95 : Eng.Known Tryz.prog e95 := Eng.known_of mixed (Eng.mxTab_ok spOk known0) noNum c95
theorem k96 : Eng.Known Tryz.prog e96 := Eng.known_of mixed (Eng.mxTab_ok spOk known0) noNum c96
theorem k97 : Eng.Known Tryz.prog e97 := Eng.known_of mixed (Eng.mxTab_ok spOk known0) noNum c97
theorem k98 : Eng.Known Tryz.prog e98 := Eng.known_of mixed (Eng.mxTab_ok spOk known0) noNum c98
theorem k99 : Eng.Known Tryz.prog e99 := Eng.known_of mixed (Eng.mxTab_ok spOk known0) noNum c99
theorem k100 : Eng.Known Tryz.prog e100 := Eng.known_of mixed (Eng.mxTab_ok spOk known0) noNum c100
theorem k101 : Eng.Known Tryz.prog e101 := Eng.known_of mixed (Eng.mxTab_ok spOk known0) noNum c101
theorem k102 : Eng.Known Tryz.prog e102 := Eng.known_of mixed (Eng.mxTab_ok spOk known0) noNum c102
theorem k103 : Eng.Known Tryz.prog e103 := Eng.known_of mixed (Eng.mxTab_ok spOk known0) noNum c103
theorem k110 : Eng.Known Tryz.prog e110 := Eng.known_of mixed (Eng.mxTab_ok spOk known0) noNum c110
theorem k114 : Eng.Known Tryz.prog e114 := Eng.known_of mixed (Eng.mxTab_ok spOk known0) noNum c114
theorem k125 : Eng.Known Tryz.prog e125 := Eng.known_of mixed (Eng.mxTab_ok spOk known0) noNum c125
theorem k126 : Eng.Known Tryz.prog e126 := Eng.known_of mixed (Eng.mxTab_ok spOk known0) noNum c126
theorem k160 : Eng.Known Tryz.prog e160 := Eng.known_of mixed (Eng.mxTab_ok spOk known0) noNum c160
theorem k161 : Eng.Known Tryz.prog e161 := Eng.known_of mixed (Eng.mxTab_ok spOk known0) noNum c161
theorem k182 : Eng.Known Tryz.prog e182 := Eng.known_of mixed (Eng.mxTab_ok spOk known0) noNum c182
theorem k183 : Eng.Known Tryz.prog e183 := Eng.known_of mixed (Eng.mxTab_ok spOk known0) noNum c183
theorem k184 : Eng.Known Tryz.prog e184 := Eng.known_of mixed (Eng.mxTab_ok spOk known0) noNum c184
theorem k185 : Eng.Known Tryz.prog e185 := Eng.known_of mixed (Eng.mxTab_ok spOk known0) noNum c185
theorem k186 : Eng.Known Tryz.prog e186 := Eng.known_of mixed (Eng.mxTab_ok spOk known0) noNum c186
theorem k187 : Eng.Known Tryz.prog e187 := Eng.known_of mixed (Eng.mxTab_ok spOk known0) noNum c187
theorem k188 : Eng.Known Tryz.prog e188 := Eng.known_of mixed (Eng.mxTab_ok spOk known0) noNum c188
theorem k189 : Eng.Known Tryz.prog e189 := Eng.known_of mixed (Eng.mxTab_ok spOk known0) noNum c189
theorem k193 : Eng.Known Tryz.prog e193 := Eng.known_of mixed (Eng.mxTab_ok spOk known0) noNum c193
theorem k194 : Eng.Known Tryz.prog e194 := Eng.known_of mixed (Eng.mxTab_ok spOk known0) noNum c194
theorem k196 : Eng.Known Tryz.prog e196 := Eng.known_of mixed (Eng.mxTab_ok spOk known0) noNum c196
theorem k198 : Eng.Known Tryz.prog e198 := Eng.known_of mixed (Eng.mxTab_ok spOk known0) noNum c198
theorem k200 : Eng.Known Tryz.prog e200 := Eng.known_of mixed (Eng.mxTab_ok spOk known0) noNum c200
theorem k202 : Eng.Known Tryz.prog e202 := Eng.known_of mixed (Eng.mxTab_ok spOk known0) noNum c202
theorem k204 : Eng.Known Tryz.prog e204 := Eng.known_of mixed (Eng.mxTab_ok spOk known0) noNum c204
theorem k206 : Eng.Known Tryz.prog e206 := Eng.known_of mixed (Eng.mxTab_ok spOk known0) noNum c206
theorem k208 : Eng.Known Tryz.prog e208 := Eng.known_of mixed (Eng.mxTab_ok spOk known0) noNum c208
theorem k210 : Eng.Known Tryz.prog e210 := Eng.known_of mixed (Eng.mxTab_ok spOk known0) noNum c210
theorem k212 : Eng.Known Tryz.prog e212 := Eng.known_of mixed (Eng.mxTab_ok spOk known0) noNum c212
theorem k214 : Eng.Known Tryz.prog e214 := Eng.known_of mixed (Eng.mxTab_ok spOk known0) noNum c214
theorem k216 : Eng.Known Tryz.prog e216 := Eng.known_of mixed (Eng.mxTab_ok spOk known0) noNum c216
theorem k218 : Eng.Known Tryz.prog e218 := Eng.known_of mixed (Eng.mxTab_ok spOk known0) noNum c218
theorem k220 : Eng.Known Tryz.prog e220 := Eng.known_of mixed (Eng.mxTab_ok spOk known0) noNum c220
theorem k222 : Eng.Known Tryz.prog e222 := Eng.known_of mixed (Eng.mxTab_ok spOk known0) noNum c222
theorem k224 : Eng.Known Tryz.prog e224 := Eng.known_of mixed (Eng.mxTab_ok spOk known0) noNum c224
theorem k226 : Eng.Known Tryz.prog e226 := Eng.known_of mixed (Eng.mxTab_ok spOk known0) noNum c226
theorem k228 : Eng.Known Tryz.prog e228 := Eng.known_of mixed (Eng.mxTab_ok spOk known0) noNum c228
theorem k230 : Eng.Known Tryz.prog e230 := Eng.known_of mixed (Eng.mxTab_ok spOk known0) noNum c230
theorem k232 : Eng.Known Tryz.prog e232 := Eng.known_of mixed (Eng.mxTab_ok spOk known0) noNum c232
theorem k234 : Eng.Known Tryz.prog e234 := Eng.known_of mixed (Eng.mxTab_ok spOk known0) noNum c234
theorem k236 : Eng.Known Tryz.prog e236 := Eng.known_of mixed (Eng.mxTab_ok spOk known0) noNum c236
theorem k238 : Eng.Known Tryz.prog e238 := Eng.known_of mixed (Eng.mxTab_ok spOk known0) noNum c238
theorem k240 : Eng.Known Tryz.prog e240 := Eng.known_of mixed (Eng.mxTab_ok spOk known0) noNum c240
theorem k241 : Eng.Known Tryz.prog e241 := Eng.known_of mixed (Eng.mxTab_ok spOk known0) noNum c241
theorem k243 : Eng.Known Tryz.prog e243 := Eng.known_of mixed (Eng.mxTab_ok spOk known0) noNum c243
theorem k244 : Eng.Known Tryz.prog e244 := Eng.known_of mixed (Eng.mxTab_ok spOk known0) noNum c244
theorem k246 : Eng.Known Tryz.prog e246 := Eng.known_of mixed (Eng.mxTab_ok spOk known0) noNum c246
theorem k247 : Eng.Known Tryz.prog e247 := Eng.known_of mixed (Eng.mxTab_ok spOk known0) noNum c247
theorem k248 : Eng.Known Tryz.prog e248 := Eng.known_of mixed (Eng.mxTab_ok spOk known0) noNum c248
theorem k249 : Eng.Known Tryz.prog e249 := Eng.known_of mixed (Eng.mxTab_ok spOk known0) noNum c249
theorem k250 : Eng.Known Tryz.prog e250 := Eng.known_of mixed (Eng.mxTab_ok spOk known0) noNum c250
theorem k251 : Eng.Known Tryz.prog e251 := Eng.known_of mixed (Eng.mxTab_ok spOk known0) noNum c251
theorem k252 : Eng.Known Tryz.prog e252 := Eng.known_of mixed (Eng.mxTab_ok spOk known0) noNum c252
theorem k253 : Eng.Known Tryz.prog e253 := Eng.known_of mixed (Eng.mxTab_ok spOk known0) noNum c253
theorem k254 : Eng.Known Tryz.prog e254 := Eng.known_of mixed (Eng.mxTab_ok spOk known0) noNum c254
theorem k255 : Eng.Known Tryz.prog e255 := Eng.known_of mixed (Eng.mxTab_ok spOk known0) noNum c255
theorem k256 : Eng.Known Tryz.prog e256 := Eng.known_of mixed (Eng.mxTab_ok spOk known0) noNum c256
theorem k257 : Eng.Known Tryz.prog e257 := Eng.known_of mixed (Eng.mxTab_ok spOk known0) noNum c257
theorem k258 : Eng.Known Tryz.prog e258 := Eng.known_of mixed (Eng.mxTab_ok spOk known0) noNum c258
theorem k259 : Eng.Known Tryz.prog e259 := Eng.known_of mixed (Eng.mxTab_ok spOk known0) noNum c259
theorem k260 : Eng.Known Tryz.prog e260 := Eng.known_of mixed (Eng.mxTab_ok spOk known0) noNum c260
theorem k261 : Eng.Known Tryz.prog e261 := Eng.known_of mixed (Eng.mxTab_ok spOk known0) noNum c261
theorem k262 : Eng.Known Tryz.prog e262 := Eng.known_of mixed (Eng.mxTab_ok spOk known0) noNum c262
theorem k263 : Eng.Known Tryz.prog e263 := Eng.known_of mixed (Eng.mxTab_ok spOk known0) noNum c263
theorem k264 : Eng.Known Tryz.prog e264 := Eng.known_of mixed (Eng.mxTab_ok spOk known0) noNum c264
theorem k265 : Eng.Known Tryz.prog e265 := Eng.known_of mixed (Eng.mxTab_ok spOk known0) noNum c265
theorem k266 : Eng.Known Tryz.prog e266 := Eng.known_of mixed (Eng.mxTab_ok spOk known0) noNum c266
theorem k267 : Eng.Known Tryz.prog e267 := Eng.known_of mixed (Eng.mxTab_ok spOk known0) noNum c267
theorem k268 : Eng.Known Tryz.prog e268 := Eng.known_of mixed (Eng.mxTab_ok spOk known0) noNum c268
theorem k271 : Eng.Known Tryz.prog e271 := Eng.known_of mixed (Eng.mxTab_ok spOk known0) noNum c271
theorem k272 : Eng.Known Tryz.prog e272 := Eng.known_of mixed (Eng.mxTab_ok spOk known0) noNum c272
theorem k273 : Eng.Known Tryz.prog e273 := Eng.known_of mixed (Eng.mxTab_ok spOk known0) noNum c273
theorem k274 : Eng.Known Tryz.prog e274 := Eng.known_of mixed (Eng.mxTab_ok spOk known0) noNum c274
theorem k275 : Eng.Known Tryz.prog e275 := Eng.known_of mixed (Eng.mxTab_ok spOk known0) noNum c275
theorem k276 : Eng.Known Tryz.prog e276 := Eng.known_of mixed (Eng.mxTab_ok spOk known0) noNum c276
theorem k277 : Eng.Known Tryz.prog e277 := Eng.known_of mixed (Eng.mxTab_ok spOk known0) noNum c277
theorem k278 : Eng.Known Tryz.prog e278 := Eng.known_of mixed (Eng.mxTab_ok spOk known0) noNum c278
theorem k279 : Eng.Known Tryz.prog e279 := Eng.known_of mixed (Eng.mxTab_ok spOk known0) noNum c279
theorem k280 : Eng.Known Tryz.prog e280 := Eng.known_of mixed (Eng.mxTab_ok spOk known0) noNum c280
theorem k281 : Eng.Known Tryz.prog e281 := Eng.known_of mixed (Eng.mxTab_ok spOk known0) noNum c281
theorem k282 : Eng.Known Tryz.prog e282 := Eng.known_of mixed (Eng.mxTab_ok spOk known0) noNum c282
theorem k283 : Eng.Known Tryz.prog e283 := Eng.known_of mixed (Eng.mxTab_ok spOk known0) noNum c283
theorem k284 : Eng.Known Tryz.prog e284 := Eng.known_of mixed (Eng.mxTab_ok spOk known0) noNum c284
theorem k285 : Eng.Known Tryz.prog e285 := Eng.known_of mixed (Eng.mxTab_ok spOk known0) noNum c285
theorem k286 : Eng.Known Tryz.prog e286 := Eng.known_of mixed (Eng.mxTab_ok spOk known0) noNum c286
theorem k287 : Eng.Known Tryz.prog e287 := Eng.known_of mixed (Eng.mxTab_ok spOk known0) noNum c287
theorem k288 : Eng.Known Tryz.prog e288 := Eng.known_of mixed (Eng.mxTab_ok spOk known0) noNum c288
theorem k289 : Eng.Known Tryz.prog e289 := Eng.known_of mixed (Eng.mxTab_ok spOk known0) noNum c289
theorem k290 : Eng.Known Tryz.prog e290 := Eng.known_of mixed (Eng.mxTab_ok spOk known0) noNum c290
theorem k291 : Eng.Known Tryz.prog e291 := Eng.known_of mixed (Eng.mxTab_ok spOk known0) noNum c291
theorem k292 : Eng.Known Tryz.prog e292 := Eng.known_of mixed (Eng.mxTab_ok spOk known0) noNum c292
theorem k293 : Eng.Known Tryz.prog e293 := Eng.known_of mixed (Eng.mxTab_ok spOk known0) noNum c293
theorem k294 : Eng.Known Tryz.prog e294 := Eng.known_of mixed (Eng.mxTab_ok spOk known0) noNum c294
theorem k299 : Eng.Known Tryz.prog e299 := Eng.known_of mixed (Eng.mxTab_ok spOk known0) noNum c299
theorem k300 : Eng.Known Tryz.prog e300 := Eng.known_of mixed (Eng.mxTab_ok spOk known0) noNum c300
theorem k301 : Eng.Known Tryz.prog e301 := Eng.known_of mixed (Eng.mxTab_ok spOk known0) noNum c301
theorem k302 : Eng.Known Tryz.prog e302 := Eng.known_of mixed (Eng.mxTab_ok spOk known0) noNum c302
theorem k303 : Eng.Known Tryz.prog e303 := Eng.known_of mixed (Eng.mxTab_ok spOk known0) noNum c303
theorem k304 : Eng.Known Tryz.prog e304 := Eng.known_of mixed (Eng.mxTab_ok spOk known0) noNum c304
theorem k305 : Eng.Known Tryz.prog e305 := Eng.known_of mixed (Eng.mxTab_ok spOk known0) noNum c305
theorem k306 : Eng.Known Tryz.prog e306 := Eng.known_of mixed (Eng.mxTab_ok spOk known0) noNum c306
theorem k307 : Eng.Known Tryz.prog e307 := Eng.known_of mixed (Eng.mxTab_ok spOk known0) noNum c307
theorem k308 : Eng.Known Tryz.prog e308 := Eng.known_of mixed (Eng.mxTab_ok spOk known0) noNum c308
theorem k309 : Eng.Known Tryz.prog e309 := Eng.known_of mixed (Eng.mxTab_ok spOk known0) noNum c309
theorem k310 : Eng.Known Tryz.prog e310 := Eng.known_of mixed (Eng.mxTab_ok spOk known0) noNum c310
theorem k311 : Eng.Known Tryz.prog e311 := Eng.known_of mixed (Eng.mxTab_ok spOk known0) noNum c311
theorem k312 : Eng.Known Tryz.prog e312 := Eng.known_of mixed (Eng.mxTab_ok spOk known0) noNum c312
theorem k313 : Eng.Known Tryz.prog e313 := Eng.known_of mixed (Eng.mxTab_ok spOk known0) noNum c313
theorem k314 : Eng.Known Tryz.prog e314 := Eng.known_of mixed (Eng.mxTab_ok spOk known0) noNum c314
theorem k315 : Eng.Known Tryz.prog e315 := Eng.known_of mixed (Eng.mxTab_ok spOk known0) noNum c315
theorem k316 : Eng.Known Tryz.prog e316 := Eng.known_of mixed (Eng.mxTab_ok spOk known0) noNum c316
theorem k317 : Eng.Known Tryz.prog e317 := Eng.known_of mixed (Eng.mxTab_ok spOk known0) noNum c317
theorem k323 : Eng.Known Tryz.prog e323 := Eng.known_of mixed (Eng.mxTab_ok spOk known0) noNum c323
theorem k325 : Eng.Known Tryz.prog e325 := Eng.known_of mixed (Eng.mxTab_ok spOk known0) noNum c325
noncomputable def tab1 : List Eng.KE := e325 :: e323 :: e317 :: e316 :: e315 :: e314 :: e313 :: e312 :: e311 :: e310 :: e309 :: e308 :: e307 :: e306 :: e305 :: e304 :: e303 :: e302 :: e301 :: e300 :: e299 :: e294 :: e293 :: e292 :: e291 :: e290 :: e289 :: e288 :: e287 :: e286 :: e285 :: e284 :: e283 :: e282 :: e281 :: e280 :: e279 :: e278 :: e277 :: e276 :: e275 :: e274 :: e273 :: e272 :: e271 :: e268 :: e267 :: e266 :: e265 :: e264 :: e263 :: e262 :: e261 :: e260 :: e259 :: e258 :: e257 :: e256 :: e255 :: e254 :: e253 :: e252 :: e251 :: e250 :: e249 :: e248 :: e247 :: e246 :: e244 :: e243 :: e241 :: e240 :: e238 :: e236 :: e234 :: e232 :: e230 :: e228 :: e226 :: e224 :: e222 :: e220 :: e218 :: e216 :: e214 :: e212 :: e210 :: e208 :: e206 :: e204 :: e202 :: e200 :: e198 :: e196 :: e194 :: e193 :: e189 :: e188 :: e187 :: e186 :: e185 :: e184 :: e183 :: e182 :: e161 :: e160 :: e126 :: e125 :: e114 :: e110 :: e103 :: e102 :: e101 :: e100 :: e99 :: e98 :: e97 :: e96 :: e95 :: e93 :: e92 :: e89 :: e86 :: e85 :: e84 :: e83 :: e82 :: e81 :: e80 :: e79 :: e78 :: e77 :: e76 :: e75 :: e74 :: e72 :: e66 :: e64 :: e62 :: e60 :: e58 :: e56 :: e54 :: e52 :: e50 :: e48 :: e47 :: e45 :: e43 :: e40 :: e38 :: e36 :: e34 :: e32 :: e30 :: e28 :: e26 :: e24 :: e22 :: e20 :: e18 :: e17 :: e16 :: e15 :: e14 :: e13 :: e12 :: e11 :: e10 :: e9 :: e8 :: e7 :: e6 :: e5 :: e4 :: e3 :: e2 :: e1 :: e0 :: tab0
theorem known1 : ∀ e ∈ tab1, Eng.Known Tryz.prog e := Eng.known_cons k325 (Eng.known_cons k323 (Eng.known_cons k317 (Eng.known_cons k316 (Eng.known_cons k315 (Eng.known_cons k314 (Eng.known_cons k313 (Eng.known_cons k312 (Eng.known_cons k311 (Eng.known_cons k310 (Eng.known_cons k309 (Eng.known_cons k308 (Eng.known_cons k307 (Eng.known_cons k306 (Eng.known_cons k305 (Eng.known_cons k304 (Eng.known_cons k303 (Eng.known_cons k302 (Eng.known_cons k301 (Eng.known_cons k300 (Eng.known_cons k299 (Eng.known_cons k294 (Eng.known_cons k293 (Eng.known_cons k292 (Eng.known_cons k291 (Eng.known_cons k290 (Eng.known_cons k289 (Eng.known_cons k288 (Eng.known_cons k287 (Eng.known_cons k286 (Eng.known_cons k285 (Eng.known_cons k284 (Eng.known_cons k283 (Eng.known_cons k282 (Eng.known_cons k281 (Eng.known_cons k280 (Eng.known_cons k279 (Eng.known_cons k278 (Eng.known_cons k277 (Eng.known_cons k276 (Eng.known_cons k275 (Eng.known_cons k274 (Eng.known_cons k273 (Eng.known_cons k272 (Eng.known_cons k271 (Eng.known_cons k268 (Eng.known_cons k267 (Eng.known_cons k266 (Eng.known_cons k265 (Eng.known_cons k264 (Eng.known_cons k263 (Eng.known_cons k262 (Eng.known_cons k261 (Eng.known_cons k260 (Eng.known_cons k259 (Eng.known_cons k258 (Eng.known_cons k257 (Eng.known_cons k256 (Eng.known_cons k255 (Eng.known_cons k254 (Eng.known_cons k253 (Eng.known_cons k252 (Eng.known_cons k251 (Eng.known_cons k250 (Eng.known_cons k249 (Eng.known_cons k248 (Eng.known_cons k247 (Eng.known_cons k246 (Eng.known_cons k244 (Eng.known_cons k243 (Eng.known_cons k241 (Eng.known_cons k240 (Eng.known_cons k238 (Eng.known_cons k236 (Eng.known_cons k234 (Eng.known_cons k232 (Eng.known_cons k230 (Eng.known_cons k228 (Eng.known_cons k226 (Eng.known_cons k224 (Eng.known_cons k222 (Eng.known_cons k220 (Eng.known_cons k218 (Eng.known_cons k216 (Eng.known_cons k214 (Eng.known_cons k212 (Eng.known_cons k210 (Eng.known_cons k208 (Eng.known_cons k206 (Eng.known_cons k204 (Eng.known_cons k202 (Eng.known_cons k200 (Eng.known_cons k198 (Eng.known_cons k196 (Eng.known_cons k194 (Eng.known_cons k193 (Eng.known_cons k189 (Eng.known_cons k188 (Eng.known_cons k187 (Eng.known_cons k186 (Eng.known_cons k185 (Eng.known_cons k184 (Eng.known_cons k183 (Eng.known_cons k182 (Eng.known_cons k161 (Eng.known_cons k160 (Eng.known_cons k126 (Eng.known_cons k125 (Eng.known_cons k114 (Eng.known_cons k110 (Eng.known_cons k103 (Eng.known_cons k102 (Eng.known_cons k101 (Eng.known_cons k100 (Eng.known_cons k99 (Eng.known_cons k98 (Eng.known_cons k97 (Eng.known_cons k96 (Eng.known_cons k95 (Eng.known_cons k93 (Eng.known_cons k92 (Eng.known_cons k89 (Eng.known_cons k86 (Eng.known_cons k85 (Eng.known_cons k84 (Eng.known_cons k83 (Eng.known_cons k82 (Eng.known_cons k81 (Eng.known_cons k80 (Eng.known_cons k79 (Eng.known_cons k78 (Eng.known_cons k77 (Eng.known_cons k76 (Eng.known_cons k75 (Eng.known_cons k74 (Eng.known_cons k72 (Eng.known_cons k66 (Eng.known_cons k64 (Eng.known_cons k62 (Eng.known_cons k60 (Eng.known_cons k58 (Eng.known_cons k56 (Eng.known_cons k54 (Eng.known_cons k52 (Eng.known_cons k50 (Eng.known_cons k48 (Eng.known_cons k47 (Eng.known_cons k45 (Eng.known_cons k43 (Eng.known_cons k40 (Eng.known_cons k38 (Eng.known_cons k36 (Eng.known_cons k34 (Eng.known_cons k32 (Eng.known_cons k30 (Eng.known_cons k28 (Eng.known_cons k26 (Eng.known_cons k24 (Eng.known_cons k22 (Eng.known_cons k20 (Eng.known_cons k18 (Eng.known_cons k17 (Eng.known_cons k16 (Eng.known_cons k15 (Eng.known_cons k14 (Eng.known_cons k13 (Eng.known_cons k12 (Eng.known_cons k11 (Eng.known_cons k10 (Eng.known_cons k9 (Eng.known_cons k8 (Eng.known_cons k7 (Eng.known_cons k6 (Eng.known_cons k5 (Eng.known_cons k4 (Eng.known_cons k3 (Eng.known_cons k2 (Eng.known_cons k1 (Eng.known_cons k0 (known0)))))))))))))))))))))))))))))))))))))))))))))))))))))))))))))))))))))))))))))))))))))))))))))))))))))))))))))))))))))))))))))))))))))))))))))))))))))))))))))))))))))))))))))))))))
/-- fulling/fullingref15.Axiom (1380 operations) -/
noncomputable def e19 : Eng.KE := (121, [.str ⟨#[100, 105, 118, 45, 111, 110, 101]⟩], .tup [.agg q19, .bool true])
/-- fulling/fullingref15.Axiom (1656 operations) -/
noncomputable def e21 : Eng.KE := (121, [.str ⟨#[100, 105, 118, 45, 115, 101, 108, 102]⟩], .tup [.agg q20, .bool true])
/-- fulling/fullingref15.Axiom (1458 operations) -/
noncomputable def e23 : Eng.KE := (121, [.str ⟨#[114, 101, 109, 45, 115, 101, 108, 102]⟩], .tup [.agg q21, .bool true])
/-- fulling/fullingref15.Axiom (2137 operations) -/
noncomputable def e25 : Eng.KE := (121, [.str ⟨#[110, 101, 101, 100, 45, 116, 114, 117, 101]⟩], .tup [.agg q22, .bool true])
/-- fulling/fullingref15.Axiom (4017 operations) -/
noncomputable def e27 : Eng.KE := (121, [.str ⟨#[110, 101, 101, 100, 45, 116, 119, 105, 99, 101]⟩], .tup [.agg q24, .bool true])
/-- fulling/fullingref15.Axiom (3627 operations) -/
noncomputable def e29 : Eng.KE := (121, [.str ⟨#[108, 111, 97, 100, 45, 115, 116, 111, 114, 101]⟩], .tup [.agg q27, .bool true])
/-- fulling/fullingref15.Axiom (4762 operations) -/
noncomputable def e31 : Eng.KE := (121, [.str ⟨#[108, 111, 97, 100, 45, 97, 112, 97, 114, 116]⟩], .tup [.agg q30, .bool true])
/-- fulling/fullingref15.Axiom (4725 operations) -/
noncomputable def e33 : Eng.KE := (121, [.str ⟨#[108, 111, 97, 100, 45, 111, 116, 104, 101, 114]⟩], .tup [.agg q32, .bool true])
/-- fulling/fullingref15.Axiom (4019 operations) -/
noncomputable def e35 : Eng.KE := (121, [.str ⟨#[108, 111, 97, 100, 45, 110, 101, 101, 100]⟩], .tup [.agg q35, .bool true])
/-- fulling/fullingref15.Axiom (3974 operations) -/
noncomputable def e37 : Eng.KE := (121, [.str ⟨#[108, 111, 97, 100, 45, 111, 117, 116]⟩], .tup [.agg q37, .bool true])
/-- fulling/fullingref15.Axiom (3231 operations) -/
noncomputable def e39 : Eng.KE := (121, [.str ⟨#[115, 116, 111, 114, 101, 45, 108, 111, 97, 100]⟩], .tup [.agg q39, .bool true])
/-- fulling/fullingref15.Axiom (3439 operations) -/
noncomputable def e41 : Eng.KE := (121, [.str ⟨#[114, 101, 116, 45, 111, 117, 116]⟩], .tup [.agg q41, .bool true])
/-- fulling/fullingref15.Parse (3739 operations) -/
noncomputable def e44 : Eng.KE := (23, [.str ⟨#[114, 117, 108, 101, 32, 97, 100, 100, 45, 116, 117, 114, 110, 58, 32, 40, 97, 100, 100, 32, 63, 97, 32, 63, 98, 41, 32, 61, 62, 32, 40, 97, 100, 100, 32, 63, 98, 32, 63, 97, 41, 59, 10, 114, 117, 108, 101, 32, 97, 100, 100, 45, 122, 101, 114, 111, 58, 32, 40, 97, 100, 100, 32, 63, 97, 32, 48, 41, 32, 61, 62, 32, 63, 97, 59, 10]⟩], .tup [.fs q42 2, .agg [.int .i64 0, .int .i64 0]])
/-- fulling/fullingref7.Lower (12318 operations) -/
noncomputable def e46 : Eng.KE := (25, [.agg q3], .tup [.agg q45, .int .i64 0])
/-- fulling/fullingref15.Axiom (2086 operations) -/
noncomputable def e49 : Eng.KE := (121, [.str ⟨#[100, 105, 118, 45, 109, 105, 110, 117, 115]⟩], .tup [.agg q46, .bool true])
/-- fulling/fullingref15.Axiom (1396 operations) -/
noncomputable def e51 : Eng.KE := (121, [.str ⟨#[100, 105, 118, 45, 122, 101, 114, 111]⟩], .tup [.agg q47, .bool true])
/-- fulling/fullingref15.Axiom (1422 operations) -/
noncomputable def e53 : Eng.KE := (121, [.str ⟨#[114, 101, 109, 45, 111, 110, 101]⟩], .tup [.agg q48, .bool true])
/-- fulling/fullingref15.Axiom (3968 operations) -/
noncomputable def e55 : Eng.KE := (121, [.str ⟨#[114, 101, 109, 45, 100, 105, 118]⟩], .tup [.agg q49, .bool true])
/-- fulling/fullingref15.Axiom (4977 operations) -/
noncomputable def e57 : Eng.KE := (121, [.str ⟨#[115, 116, 111, 114, 101, 45, 115, 116, 111, 114, 101]⟩], .tup [.agg q50, .bool true])
/-- fulling/fullingref15.Axiom (6929 operations) -/
noncomputable def e59 : Eng.KE := (121, [.str ⟨#[115, 116, 111, 114, 101, 45, 115, 119, 97, 112]⟩], .tup [.agg q51, .bool true])
/-- fulling/fullingref15.Axiom (5890 operations) -/
noncomputable def e61 : Eng.KE := (121, [.str ⟨#[115, 116, 111, 114, 101, 45, 110, 101, 101, 100]⟩], .tup [.agg q52, .bool true])
/-- fulling/fullingref15.Axiom (5793 operations) -/
noncomputable def e63 : Eng.KE := (121, [.str ⟨#[115, 116, 111, 114, 101, 45, 111, 117, 116]⟩], .tup [.agg q53, .bool true])
/-- fulling/fullingref15.Axiom (3466 operations) -/
noncomputable def e65 : Eng.KE := (121, [.str ⟨#[114, 101, 116, 45, 110, 101, 101, 100]⟩], .tup [.agg q54, .bool true])
/-- fulling/fullingref15.Axiom (3776 operations) -/
noncomputable def e67 : Eng.KE := (121, [.str ⟨#[114, 101, 116, 45, 115, 116, 111, 114, 101]⟩], .tup [.agg q55, .bool true])
/-- fulling/fullingref18.Polynomial (1778 operations) -/
noncomputable def e68 : Eng.KE := (262, [.agg q7], .tup [.fs [.fs [.int .i64 0, .int .i64 1] 2, .int .u64 1, .fs [.int .i64 1, .int .i64 0] 2, .int .u64 1] 2, .bool true])
/-- fulling/fullingref18.Polynomial (962 operations) -/
noncomputable def e70 : Eng.KE := (262, [.agg q9], .tup [.fs [.fs [.int .i64 1] 1, .int .u64 1] 1, .bool true])
/-- fulling/fullingref22.Minimum (40862 operations) -/
noncomputable def e87 : Eng.KE := (154, [.agg q58, .int .i64 60], .tup [.fs q74 26, .int .i64 40, .agg [.int .i64 3, .int .i64 12, .fs [.int .i64 3, .int .i64 13, .fs [.int .i64 3, .int .i64 22, .fs q75 3, .int .i64 3, .int .i64 22, .fs q75 3] 2, .int .i64 2, .int .i64 0, .fs [] 0] 2], .int .i64 0])
/-- fulling/fullingref22.Build (27520 operations) -/
noncomputable def e88 : Eng.KE := (155, [.agg q58, .fs q74 26], .tup [.agg q66, .bool true])
/-- fulling/fullingref37.Build (42020 operations) -/
noncomputable def e90 : Eng.KE := (156, [.agg q76, .fs [.int .i64 3] 1], .tup [.agg [.fs [.int .i64 2, .bool false, .fs [] 0, .fs [] 0, .int .i64 17, .bool false, .fs [.fs [.int .i64 16, .bool false, .fs [.fs [.int .i64 10, .bool false, .fs [] 0, .fs [] 0, .int .i64 11, .bool false, .fs [] 0, .fs [] 0, .int .i64 13, .bool false, .fs [] 0, .fs [] 0, .int .i64 14, .bool true, .fs [] 0, .fs [] 0, .int .i64 6, .bool false, .fs [] 0, .fs [] 0, .int .i64 7, .bool false, .fs [] 0, .fs [] 0] 6] 1, .fs [] 0] 1, .fs [] 0] 2, .fs [] 0, .int .i64 18, .bool false, .fs [] 0, .fs [] 0, .int .i64 19, .bool true, .fs [] 0, .fs [] 0] 4], .int .i64 0])
/-- fulling/fullingref32.Valid (5041 operations) -/
noncomputable def e104 : Eng.KE := (306, [.agg q85], .bool true)
/-- fulling/fullingref32.Writes (54 operations) -/
noncomputable def e105 : Eng.KE := (453, [.agg [.int .i64 34, .int .i64 16, .int .i64 15, .int .i64 0, .int .i64 0, .fs [] 0]], .fs [.int .i64 16] 1)
/-- fulling/fullingref32.Reads (97 operations) -/
noncomputable def e106 : Eng.KE := (452, [.agg [.int .i64 34, .int .i64 16, .int .i64 15, .int .i64 0, .int .i64 0, .fs [] 0]], .fs [.int .i64 15] 1)
/-- fulling/fullingref32.Writes (50 operations) -/
noncomputable def e107 : Eng.KE := (453, [.agg [.int .i64 13, .int .i64 15, .int .i64 0, .int .i64 0, .int .i64 1, .fs [] 0]], .fs [.int .i64 15] 1)
/-- fulling/fullingref32.Reads (61 operations) -/
noncomputable def e108 : Eng.KE := (452, [.agg [.int .i64 13, .int .i64 15, .int .i64 0, .int .i64 0, .int .i64 1, .fs [] 0]], .fs [] 0)
/-- fulling/fullingref32.Writes (50 operations) -/
noncomputable def e111 : Eng.KE := (453, [.agg [.int .i64 13, .int .i64 14, .int .i64 0, .int .i64 0, .int .i64 1, .fs [] 0]], .fs [.int .i64 14] 1)
/-- fulling/fullingref32.Reads (61 operations) -/
noncomputable def e112 : Eng.KE := (452, [.agg [.int .i64 13, .int .i64 14, .int .i64 0, .int .i64 0, .int .i64 1, .fs [] 0]], .fs [] 0)
/-- fulling/fullingref32.Writes (44 operations) -/
noncomputable def e115 : Eng.KE := (453, [.agg [.int .i64 10, .int .i64 3, .int .i64 13, .int .i64 0, .int .i64 0, .fs [] 0]], .fs [.int .i64 3] 1)
/-- fulling/fullingref32.Reads (87 operations) -/
noncomputable def e116 : Eng.KE := (452, [.agg [.int .i64 10, .int .i64 3, .int .i64 13, .int .i64 0, .int .i64 0, .fs [] 0]], .fs [.int .i64 13] 1)
/-- fulling/fullingref32.Writes (44 operations) -/
noncomputable def e117 : Eng.KE := (453, [.agg [.int .i64 10, .int .i64 13, .int .i64 9, .int .i64 0, .int .i64 0, .fs [] 0]], .fs [.int .i64 13] 1)
/-- fulling/fullingref32.Reads (87 operations) -/
noncomputable def e118 : Eng.KE := (452, [.agg [.int .i64 10, .int .i64 13, .int .i64 9, .int .i64 0, .int .i64 0, .fs [] 0]], .fs [.int .i64 9] 1)
/-- fulling/fullingref32.Writes (44 operations) -/
noncomputable def e119 : Eng.KE := (453, [.agg [.int .i64 10, .int .i64 12, .int .i64 11, .int .i64 0, .int .i64 0, .fs [] 0]], .fs [.int .i64 12] 1)
/-- fulling/fullingref32.Reads (87 operations) -/
noncomputable def e120 : Eng.KE := (452, [.agg [.int .i64 10, .int .i64 12, .int .i64 11, .int .i64 0, .int .i64 0, .fs [] 0]], .fs [.int .i64 11] 1)
/-- fulling/fullingref32.Writes (64 operations) -/
noncomputable def e121 : Eng.KE := (453, [.agg [.int .i64 30, .int .i64 11, .int .i64 10, .int .i64 0, .int .i64 0, .fs [] 0]], .fs [.int .i64 11] 1)
/-- fulling/fullingref32.Reads (151 operations) -/
noncomputable def e122 : Eng.KE := (452, [.agg [.int .i64 30, .int .i64 11, .int .i64 10, .int .i64 0, .int .i64 0, .fs [] 0]], .fs [.int .i64 10, .int .i64 11] 2)
/-- fulling/fullingref32.Writes (44 operations) -/
noncomputable def e123 : Eng.KE := (453, [.agg [.int .i64 10, .int .i64 11, .int .i64 9, .int .i64 0, .int .i64 0, .fs [] 0]], .fs [.int .i64 11] 1)
/-- fulling/fullingref32.Reads (87 operations) -/
noncomputable def e124 : Eng.KE := (452, [.agg [.int .i64 10, .int .i64 11, .int .i64 9, .int .i64 0, .int .i64 0, .fs [] 0]], .fs [.int .i64 9] 1)
/-- fulling/fullingref32.Writes (52 operations) -/
noncomputable def e127 : Eng.KE := (453, [.agg [.int .i64 33, .int .i64 9, .int .i64 0, .int .i64 0, .int .i64 1, .fs [] 0]], .fs [.int .i64 9] 1)
/-- fulling/fullingref32.Reads (95 operations) -/
noncomputable def e128 : Eng.KE := (452, [.agg [.int .i64 33, .int .i64 9, .int .i64 0, .int .i64 0, .int .i64 1, .fs [] 0]], .fs [.int .i64 9] 1)
/-- fulling/fullingref32.Writes (44 operations) -/
noncomputable def e129 : Eng.KE := (453, [.agg [.int .i64 10, .int .i64 9, .int .i64 3, .int .i64 0, .int .i64 0, .fs [] 0]], .fs [.int .i64 9] 1)
/-- fulling/fullingref32.Reads (87 operations) -/
noncomputable def e130 : Eng.KE := (452, [.agg [.int .i64 10, .int .i64 9, .int .i64 3, .int .i64 0, .int .i64 0, .fs [] 0]], .fs [.int .i64 3] 1)
/-- fulling/fullingref32.Writes (56 operations) -/
noncomputable def e131 : Eng.KE := (453, [.agg [.int .i64 35, .int .i64 8, .int .i64 3, .int .i64 0, .int .i64 0, .fs [] 0]], .fs [] 0)
/-- fulling/fullingref32.Reads (143 operations) -/
noncomputable def e132 : Eng.KE := (452, [.agg [.int .i64 35, .int .i64 8, .int .i64 3, .int .i64 0, .int .i64 0, .fs [] 0]], .fs [.int .i64 3, .int .i64 8] 2)
/-- fulling/fullingref32.Writes (64 operations) -/
noncomputable def e133 : Eng.KE := (453, [.agg [.int .i64 19, .int .i64 8, .int .i64 7, .int .i64 0, .int .i64 0, .fs [] 0]], .fs [.int .i64 8] 1)
/-- fulling/fullingref32.Reads (151 operations) -/
noncomputable def e134 : Eng.KE := (452, [.agg [.int .i64 19, .int .i64 8, .int .i64 7, .int .i64 0, .int .i64 0, .fs [] 0]], .fs [.int .i64 7, .int .i64 8] 2)
/-- fulling/fullingref32.Writes (44 operations) -/
noncomputable def e135 : Eng.KE := (453, [.agg [.int .i64 10, .int .i64 8, .int .i64 3, .int .i64 0, .int .i64 0, .fs [] 0]], .fs [.int .i64 8] 1)
/-- fulling/fullingref32.Reads (87 operations) -/
noncomputable def e136 : Eng.KE := (452, [.agg [.int .i64 10, .int .i64 8, .int .i64 3, .int .i64 0, .int .i64 0, .fs [] 0]], .fs [.int .i64 3] 1)
/-- fulling/fullingref32.Writes (50 operations) -/
noncomputable def e137 : Eng.KE := (453, [.agg [.int .i64 13, .int .i64 7, .int .i64 0, .int .i64 0, .int .i64 2, .fs [] 0]], .fs [.int .i64 7] 1)
/-- fulling/fullingref32.Reads (61 operations) -/
noncomputable def e138 : Eng.KE := (452, [.agg [.int .i64 13, .int .i64 7, .int .i64 0, .int .i64 0, .int .i64 2, .fs [] 0]], .fs [] 0)
/-- fulling/fullingref32.Writes (64 operations) -/
noncomputable def e140 : Eng.KE := (453, [.agg [.int .i64 32, .int .i64 6, .int .i64 5, .int .i64 0, .int .i64 0, .fs [] 0]], .fs [.int .i64 6] 1)
/-- fulling/fullingref32.Reads (151 operations) -/
noncomputable def e141 : Eng.KE := (452, [.agg [.int .i64 32, .int .i64 6, .int .i64 5, .int .i64 0, .int .i64 0, .fs [] 0]], .fs [.int .i64 5, .int .i64 6] 2)
/-- fulling/fullingref32.Writes (44 operations) -/
noncomputable def e142 : Eng.KE := (453, [.agg [.int .i64 10, .int .i64 6, .int .i64 3, .int .i64 0, .int .i64 0, .fs [] 0]], .fs [.int .i64 6] 1)
/-- fulling/fullingref32.Reads (87 operations) -/
noncomputable def e143 : Eng.KE := (452, [.agg [.int .i64 10, .int .i64 6, .int .i64 3, .int .i64 0, .int .i64 0, .fs [] 0]], .fs [.int .i64 3] 1)
/-- fulling/fullingref32.Writes (50 operations) -/
noncomputable def e144 : Eng.KE := (453, [.agg [.int .i64 13, .int .i64 5, .int .i64 0, .int .i64 0, .int .i64 3, .fs [] 0]], .fs [.int .i64 5] 1)
/-- fulling/fullingref32.Reads (61 operations) -/
noncomputable def e145 : Eng.KE := (452, [.agg [.int .i64 13, .int .i64 5, .int .i64 0, .int .i64 0, .int .i64 3, .fs [] 0]], .fs [] 0)
/-- fulling/fullingref32.Writes (44 operations) -/
noncomputable def e146 : Eng.KE := (453, [.agg [.int .i64 10, .int .i64 3, .int .i64 3, .int .i64 0, .int .i64 0, .fs [] 0]], .fs [.int .i64 3] 1)
/-- fulling/fullingref32.Reads (87 operations) -/
noncomputable def e147 : Eng.KE := (452, [.agg [.int .i64 10, .int .i64 3, .int .i64 3, .int .i64 0, .int .i64 0, .fs [] 0]], .fs [.int .i64 3] 1)
/-- fulling/fullingref32.Writes (38 operations) -/
noncomputable def e148 : Eng.KE := (453, [.agg [.int .i64 3, .int .i64 0, .int .i64 0, .int .i64 0, .int .i64 0, .fs [] 0]], .fs [] 0)
/-- fulling/fullingref32.Reads (49 operations) -/
noncomputable def e149 : Eng.KE := (452, [.agg [.int .i64 3, .int .i64 0, .int .i64 0, .int .i64 0, .int .i64 0, .fs [] 0]], .fs [] 0)
/-- fulling/fullingref32.Writes (44 operations) -/
noncomputable def e151 : Eng.KE := (453, [.agg [.int .i64 10, .int .i64 3, .int .i64 4, .int .i64 0, .int .i64 0, .fs [] 0]], .fs [.int .i64 3] 1)
/-- fulling/fullingref32.Reads (87 operations) -/
noncomputable def e152 : Eng.KE := (452, [.agg [.int .i64 10, .int .i64 3, .int .i64 4, .int .i64 0, .int .i64 0, .fs [] 0]], .fs [.int .i64 4] 1)
/-- fulling/fullingref32.Writes (50 operations) -/
noncomputable def e153 : Eng.KE := (453, [.agg [.int .i64 13, .int .i64 4, .int .i64 0, .int .i64 0, .int .i64 0, .fs [] 0]], .fs [.int .i64 4] 1)
/-- fulling/fullingref32.Reads (61 operations) -/
noncomputable def e154 : Eng.KE := (452, [.agg [.int .i64 13, .int .i64 4, .int .i64 0, .int .i64 0, .int .i64 0, .fs [] 0]], .fs [] 0)
/-- fulling/fullingref32.Writes (64 operations) -/
noncomputable def e156 : Eng.KE := (453, [.agg [.int .i64 30, .int .i64 2, .int .i64 1, .int .i64 0, .int .i64 0, .fs [] 0]], .fs [.int .i64 2] 1)
/-- fulling/fullingref32.Reads (151 operations) -/
noncomputable def e157 : Eng.KE := (452, [.agg [.int .i64 30, .int .i64 2, .int .i64 1, .int .i64 0, .int .i64 0, .fs [] 0]], .fs [.int .i64 1, .int .i64 2] 2)
/-- fulling/fullingref32.Writes (44 operations) -/
noncomputable def e158 : Eng.KE := (453, [.agg [.int .i64 10, .int .i64 2, .int .i64 0, .int .i64 0, .int .i64 0, .fs [] 0]], .fs [.int .i64 2] 1)
/-- fulling/fullingref32.Reads (87 operations) -/
noncomputable def e159 : Eng.KE := (452, [.agg [.int .i64 10, .int .i64 2, .int .i64 0, .int .i64 0, .int .i64 0, .fs [] 0]], .fs [.int .i64 0] 1)
/-- fulling/fullingref32.Writes (50 operations) -/
noncomputable def e162 : Eng.KE := (453, [.agg [.int .i64 13, .int .i64 0, .int .i64 0, .int .i64 0, .int .i64 0, .fs [] 0]], .fs [.int .i64 0] 1)
/-- fulling/fullingref32.Reads (61 operations) -/
noncomputable def e163 : Eng.KE := (452, [.agg [.int .i64 13, .int .i64 0, .int .i64 0, .int .i64 0, .int .i64 0, .fs [] 0]], .fs [] 0)
/-- fulling/lower.Lower (10964 operations) -/
noncomputable def e195 : Eng.KE := (17, [.agg q3], .tup [.agg q45, .int .i64 0])
/-- fulling/rules.Axiom (59 operations) -/
noncomputable def e197 : Eng.KE := (91, [.str ⟨#[100, 105, 118, 45, 111, 110, 101]⟩], .tup [.agg q19, .bool true])
/-- fulling/rules.Axiom (70 operations) -/
noncomputable def e199 : Eng.KE := (91, [.str ⟨#[100, 105, 118, 45, 115, 101, 108, 102]⟩], .tup [.agg q20, .bool true])
/-- fulling/rules.Axiom (81 operations) -/
noncomputable def e201 : Eng.KE := (91, [.str ⟨#[100, 105, 118, 45, 109, 105, 110, 117, 115]⟩], .tup [.agg q46, .bool true])
/-- fulling/rules.Axiom (92 operations) -/
noncomputable def e203 : Eng.KE := (91, [.str ⟨#[100, 105, 118, 45, 122, 101, 114, 111]⟩], .tup [.agg q47, .bool true])
/-- fulling/rules.Axiom (103 operations) -/
noncomputable def e205 : Eng.KE := (91, [.str ⟨#[114, 101, 109, 45, 111, 110, 101]⟩], .tup [.agg q48, .bool true])
/-- fulling/rules.Axiom (114 operations) -/
noncomputable def e207 : Eng.KE := (91, [.str ⟨#[114, 101, 109, 45, 115, 101, 108, 102]⟩], .tup [.agg q21, .bool true])
/-- fulling/rules.Axiom (125 operations) -/
noncomputable def e209 : Eng.KE := (91, [.str ⟨#[114, 101, 109, 45, 100, 105, 118]⟩], .tup [.agg q49, .bool true])
/-- fulling/rules.Axiom (136 operations) -/
noncomputable def e211 : Eng.KE := (91, [.str ⟨#[110, 101, 101, 100, 45, 116, 114, 117, 101]⟩], .tup [.agg q22, .bool true])
/-- fulling/rules.Axiom (147 operations) -/
noncomputable def e213 : Eng.KE := (91, [.str ⟨#[110, 101, 101, 100, 45, 116, 119, 105, 99, 101]⟩], .tup [.agg q24, .bool true])
/-- fulling/rules.Axiom (158 operations) -/
noncomputable def e215 : Eng.KE := (91, [.str ⟨#[108, 111, 97, 100, 45, 115, 116, 111, 114, 101]⟩], .tup [.agg q27, .bool true])
/-- fulling/rules.Axiom (169 operations) -/
noncomputable def e217 : Eng.KE := (91, [.str ⟨#[108, 111, 97, 100, 45, 97, 112, 97, 114, 116]⟩], .tup [.agg q30, .bool true])
/-- fulling/rules.Axiom (180 operations) -/
noncomputable def e219 : Eng.KE := (91, [.str ⟨#[108, 111, 97, 100, 45, 111, 116, 104, 101, 114]⟩], .tup [.agg q32, .bool true])
/-- fulling/rules.Axiom (191 operations) -/
noncomputable def e221 : Eng.KE := (91, [.str ⟨#[108, 111, 97, 100, 45, 110, 101, 101, 100]⟩], .tup [.agg q35, .bool true])
/-- fulling/rules.Axiom (202 operations) -/
noncomputable def e223 : Eng.KE := (91, [.str ⟨#[108, 111, 97, 100, 45, 111, 117, 116]⟩], .tup [.agg q37, .bool true])
/-- fulling/rules.Axiom (213 operations) -/
noncomputable def e225 : Eng.KE := (91, [.str ⟨#[115, 116, 111, 114, 101, 45, 115, 116, 111, 114, 101]⟩], .tup [.agg q50, .bool true])
/-- fulling/rules.Axiom (224 operations) -/
noncomputable def e227 : Eng.KE := (91, [.str ⟨#[115, 116, 111, 114, 101, 45, 115, 119, 97, 112]⟩], .tup [.agg q51, .bool true])
/-- fulling/rules.Axiom (235 operations) -/
noncomputable def e229 : Eng.KE := (91, [.str ⟨#[115, 116, 111, 114, 101, 45, 108, 111, 97, 100]⟩], .tup [.agg q39, .bool true])
/-- fulling/rules.Axiom (246 operations) -/
noncomputable def e231 : Eng.KE := (91, [.str ⟨#[115, 116, 111, 114, 101, 45, 110, 101, 101, 100]⟩], .tup [.agg q52, .bool true])
/-- fulling/rules.Axiom (257 operations) -/
noncomputable def e233 : Eng.KE := (91, [.str ⟨#[115, 116, 111, 114, 101, 45, 111, 117, 116]⟩], .tup [.agg q53, .bool true])
/-- fulling/rules.Axiom (268 operations) -/
noncomputable def e235 : Eng.KE := (91, [.str ⟨#[114, 101, 116, 45, 110, 101, 101, 100]⟩], .tup [.agg q54, .bool true])
/-- fulling/rules.Axiom (279 operations) -/
noncomputable def e237 : Eng.KE := (91, [.str ⟨#[114, 101, 116, 45, 111, 117, 116]⟩], .tup [.agg q41, .bool true])
/-- fulling/rules.Axiom (290 operations) -/
noncomputable def e239 : Eng.KE := (91, [.str ⟨#[114, 101, 116, 45, 115, 116, 111, 114, 101]⟩], .tup [.agg q55, .bool true])
/-- fulling/analysis.nodeSorts (3749 operations) -/
noncomputable def e269 : Eng.KE := (98, [.fs q43 24], .fs q93 24)
/-- fulling/analysis.nodeSorts (4101 operations) -/
noncomputable def e295 : Eng.KE := (98, [.fs q78 26], .fs [.int .i64 2, .int .i64 1, .int .i64 1, .int .i64 1, .int .i64 2, .int .i64 1, .int .i64 1, .int .i64 1, .int .i64 1, .int .i64 1, .int .i64 2, .int .i64 2, .int .i64 1, .int .i64 1, .int .i64 1, .int .i64 3, .int .i64 2, .int .i64 2, .int .i64 1, .int .i64 1, .int .i64 1, .int .i64 2, .int .i64 1, .int .i64 1, .int .i64 2, .int .i64 1] 26)
/-- fulling/selection.WellFormed (6180 operations) -/
noncomputable def e318 : Eng.KE := (111, [.agg q66], .bool true)
/-- fulling/symexec.Normalize (9617 operations) -/
noncomputable def e320 : Eng.KE := (51, [.agg [.str ⟨#[]⟩, .int .i64 1, .fs q78 26, .int .i64 25, .int .i64 24], .fs [.int .i64 3] 1], .agg q66)
/-- fulling/lower.Lower (10936 operations) -/
noncomputable def e324 : Eng.KE := (17, [.agg q91], .tup [.agg q95, .int .i64 0])
/-- fulling/validate.Function (12141 operations) -/
noncomputable def e326 : Eng.KE := (22, [.agg q95, .int .i64 0, .fs q42 2, .agg q89, .agg q90], .bool false)

end Go.Proofs.YtmanhjinplhfjaaGreatDoor.validateExamples
