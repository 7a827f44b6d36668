/-
  What is known up to level 4, and what level 5 speaks of.
-/
import Derived.Test.YtmanhjinplhfjaaGreatDoorValidateExamplesK4a
import Derived.Test.YtmanhjinplhfjaaGreatDoorValidateExamplesK4b
namespace Go.Proofs.YtmanhjinplhfjaaGreatDoor.validateExamples
theorem hb73 : Tryz.f26.body = some b73 := by kernel_rfl
theorem hb73w0 : Eng.codeAt b73 [1, 1, 1, 1, 1, 1, 1, 1, 0, 1, 0, 0, 1, 0, 0, 1, 1, 1, 1, 0, 1, 0] = .loop b73w0 := by kernel_rfl
theorem hb73w1 : Eng.codeAt b73 [1, 1, 1, 1, 1, 1, 1, 1, 0, 1, 0, 0, 1, 0, 0, 1, 1, 1, 1, 1, 0, 1, 0, 0, 1, 0, 0, 1, 0] = .loop b73w1 := by kernel_rfl
theorem hb73w2 : Eng.codeAt b73 [1, 1, 1, 1, 1, 1, 1, 1, 0, 1, 0, 0, 1, 0, 0, 1, 1, 1, 1, 1, 1, 0, 1, 0] = .loop b73w2 := by kernel_rfl
theorem h73w0o0p0 : Eng.HoL Tryz.prog Tryz.f26.ntmps b73w0 T73w0o0p0 S73w0o0p0 r73w0o0 := @Eng.HoL.ends _ (Eng.mxTab sp tab3) _ pol mixed (Eng.mxTab_ok spOk known3) noNum 100000 _ _ _ _ _ x73w0o0p0
theorem h73w0o1p0 : Eng.HoL Tryz.prog Tryz.f26.ntmps b73w0 T73w0o1p0 S73w0o1p0 r73w0o1 := @Eng.HoL.ends _ (Eng.mxTab sp tab3) _ pol mixed (Eng.mxTab_ok spOk known3) noNum 100000 _ _ _ _ _ x73w0o1p0
theorem h73w1o0p0 : Eng.HoL Tryz.prog Tryz.f26.ntmps b73w1 T73w1o0p0 S73w1o0p0 r73w1o0 := @Eng.HoL.ends _ (Eng.mxTab sp tab3) _ pol mixed (Eng.mxTab_ok spOk known3) noNum 100000 _ _ _ _ _ x73w1o0p0
theorem h73w1o1p0 : Eng.HoL Tryz.prog Tryz.f26.ntmps b73w1 T73w1o1p0 S73w1o1p0 r73w1o1 := @Eng.HoL.ends _ (Eng.mxTab sp tab3) _ pol mixed (Eng.mxTab_ok spOk known3) noNum 100000 _ _ _ _ _ x73w1o1p0
theorem h73w1o2p1 : Eng.HoL Tryz.prog Tryz.f26.ntmps b73w1 T73w1o2p1 S73w1o2p1 r73w1o2 := @Eng.HoL.ends _ (Eng.mxTab sp tab3) _ pol mixed (Eng.mxTab_ok spOk known3) noNum 100000 _ _ _ _ _ x73w1o2p1
theorem h73w1o2p0 : Eng.HoL Tryz.prog Tryz.f26.ntmps b73w1 T73w1o2p0 S73w1o2p0 r73w1o2 := @Eng.HoL.leads _ (Eng.mxTab sp tab3) _ pol mixed (Eng.mxTab_ok spOk known3) noNum 100000 _ 2 _ _ _ _ _ _ x73w1o2p0 h73w1o2p1
theorem h73w1o3p0 : Eng.HoL Tryz.prog Tryz.f26.ntmps b73w1 T73w1o3p0 S73w1o3p0 r73w1o3 := @Eng.HoL.ends _ (Eng.mxTab sp tab3) _ pol mixed (Eng.mxTab_ok spOk known3) noNum 100000 _ _ _ _ _ x73w1o3p0
theorem h73w2o0p0 : Eng.HoL Tryz.prog Tryz.f26.ntmps b73w2 T73w2o0p0 S73w2o0p0 r73w2o0 := @Eng.HoL.ends _ (Eng.mxTab sp tab3) _ pol mixed (Eng.mxTab_ok spOk known3) noNum 100000 _ _ _ _ _ x73w2o0p0
theorem h73w2o1p0 : Eng.HoL Tryz.prog Tryz.f26.ntmps b73w2 T73w2o1p0 S73w2o1p0 r73w2o1 := @Eng.HoL.ends _ (Eng.mxTab sp tab3) _ pol mixed (Eng.mxTab_ok spOk known3) noNum 100000 _ _ _ _ _ x73w2o1p0
set_option maxRecDepth 100000 in
theorem lp73 : Eng.LpOk Tryz.prog Tryz.f26.ntmps (Eng.lookL l73) b73 p73 := by haveI : Eng.Mx := (Eng.mxTab sp tab3); exact Eng.lookL_ok (tab := l73) (ps := p73) (Eng.known_consL (Eng.known_consW (fun _ => by show Eng.Ho _ _ (Eng.codeAt b73 _) _ _ _; rw [hb73w0]; exact h73w0o0p0.ho) (Eng.known_consW (fun h => absurd h (by decide)) (Eng.known_consW (fun h => absurd h (by decide)) Eng.known_nilW))) (Eng.known_consL (Eng.known_consW (fun _ => by show Eng.Ho _ _ (Eng.codeAt b73 _) _ _ _; rw [hb73w0]; exact h73w0o1p0.ho) (Eng.known_consW (fun h => absurd h (by decide)) (Eng.known_consW (fun h => absurd h (by decide)) Eng.known_nilW))) (Eng.known_consL (Eng.known_consW (fun h => absurd h (by decide)) (Eng.known_consW (fun _ => by show Eng.Ho _ _ (Eng.codeAt b73 _) _ _ _; rw [hb73w1]; exact h73w1o0p0.ho) (Eng.known_consW (fun h => absurd h (by decide)) Eng.known_nilW))) (Eng.known_consL (Eng.known_consW (fun h => absurd h (by decide)) (Eng.known_consW (fun _ => by show Eng.Ho _ _ (Eng.codeAt b73 _) _ _ _; rw [hb73w1]; exact h73w1o1p0.ho) (Eng.known_consW (fun h => absurd h (by decide)) Eng.known_nilW))) (Eng.known_consL (Eng.known_consW (fun h => absurd h (by decide)) (Eng.known_consW (fun _ => by show Eng.Ho _ _ (Eng.codeAt b73 _) _ _ _; rw [hb73w1]; exact h73w1o2p0.ho) (Eng.known_consW (fun h => absurd h (by decide)) Eng.known_nilW))) (Eng.known_consL (Eng.known_consW (fun h => absurd h (by decide)) (Eng.known_consW (fun _ => by show Eng.Ho _ _ (Eng.codeAt b73 _) _ _ _; rw [hb73w1]; exact h73w1o3p0.ho) (Eng.known_consW (fun h => absurd h (by decide)) Eng.known_nilW))) (Eng.known_consL (Eng.known_consW (fun h => absurd h (by decide)) (Eng.known_consW (fun h => absurd h (by decide)) (Eng.known_consW (fun _ => by show Eng.Ho _ _ (Eng.codeAt b73 _) _ _ _; rw [hb73w2]; exact h73w2o0p0.ho) Eng.known_nilW))) (Eng.known_consL (Eng.known_consW (fun h => absurd h (by decide)) (Eng.known_consW (fun h => absurd h (by decide)) (Eng.known_consW (fun _ => by show Eng.Ho _ _ (Eng.codeAt b73 _) _ _ _; rw [hb73w2]; exact h73w2o1p0.ho) Eng.known_nilW))) Eng.known_nilL))))))))
theorem k73 : Eng.Known Tryz.prog e73 := @Eng.known_marks _ (Eng.mxTab sp tab3) Tryz.prog pol 100000 100000 26 Tryz.f26 b73 _ _ (Eng.lookL l73) p73 mixed (Eng.mxTab_ok spOk known3) noNum Tryz.func26 hb73 (by kernel_rfl) lp73 c73
theorem k166 : Eng.Known Tryz.prog e166 := Eng.known_of mixed (Eng.mxTab_ok spOk known3) noNum c166
theorem k297 : Eng.Known Tryz.prog e297 := Eng.known_of mixed (Eng.mxTab_ok spOk known3) noNum c297
theorem k298 : Eng.Known Tryz.prog e298 := Eng.known_of mixed (Eng.mxTab_ok spOk known3) noNum c298
theorem k327 : Eng.Known Tryz.prog e327 := Eng.known_of mixed (Eng.mxTab_ok spOk known3) noNum c327
noncomputable def tab4 : List Eng.KE := e327 :: e298 :: e297 :: e166 :: e73 :: tab3
theorem known4 : ∀ e ∈ tab4, Eng.Known Tryz.prog e := Eng.known_cons k327 (Eng.known_cons k298 (Eng.known_cons k297 (Eng.known_cons k166 (Eng.known_cons k73 (known3)))))
/-- fulling/fullingref32.LivePoints (34 operations) -/
noncomputable def e168 : Eng.KE := (457, [.agg q85, .int .i64 0], .fs [.fs [] 0, .fs [.int .i64 0] 1, .fs [.int .i64 0, .int .i64 1] 2, .fs [.int .i64 1, .int .i64 2] 2, .fs [.int .i64 2] 1] 5)
/-- fulling/fullingref32.LivePoints (34 operations) -/
noncomputable def e169 : Eng.KE := (457, [.agg q85, .int .i64 1], .fs [.fs [] 0, .fs [.int .i64 4] 1, .fs [.int .i64 3] 1] 3)
/-- fulling/fullingref32.LivePoints (34 operations) -/
noncomputable def e170 : Eng.KE := (457, [.agg q85, .int .i64 2], .fs [.fs [.int .i64 3] 1, .fs [.int .i64 3] 1, .fs [.int .i64 3] 1, .fs [.int .i64 3, .int .i64 5] 2, .fs [.int .i64 3, .int .i64 5, .int .i64 6] 3, .fs [.int .i64 3, .int .i64 6] 2] 6)
/-- fulling/fullingref32.LivePoints (34 operations) -/
noncomputable def e171 : Eng.KE := (457, [.agg q85, .int .i64 3], .fs [.fs [] 0] 1)
/-- fulling/fullingref32.LivePoints (34 operations) -/
noncomputable def e172 : Eng.KE := (457, [.agg q85, .int .i64 4], .fs [.fs [.int .i64 3] 1, .fs [.int .i64 3, .int .i64 7] 2, .fs [.int .i64 3, .int .i64 7, .int .i64 8] 3, .fs [.int .i64 3, .int .i64 8] 2, .fs [.int .i64 3] 1, .fs [.int .i64 9] 1, .fs [.int .i64 9] 1, .fs [.int .i64 9, .int .i64 10] 2, .fs [.int .i64 9, .int .i64 10, .int .i64 11] 3, .fs [.int .i64 9, .int .i64 11] 2, .fs [.int .i64 9, .int .i64 12] 2, .fs [.int .i64 12, .int .i64 13] 2, .fs [.int .i64 3, .int .i64 12] 2] 13)
/-- fulling/fullingref32.LivePoints (34 operations) -/
noncomputable def e173 : Eng.KE := (457, [.agg q85, .int .i64 5], .fs [.fs [] 0] 1)
/-- fulling/fullingref32.LivePoints (34 operations) -/
noncomputable def e174 : Eng.KE := (457, [.agg q85, .int .i64 6], .fs [.fs [] 0] 1)
/-- fulling/fullingref32.LivePoints (34 operations) -/
noncomputable def e175 : Eng.KE := (457, [.agg q85, .int .i64 7], .fs [.fs [] 0, .fs [.int .i64 14] 1] 2)
/-- fulling/fullingref32.LivePoints (34 operations) -/
noncomputable def e176 : Eng.KE := (457, [.agg q85, .int .i64 8], .fs [.fs [] 0] 1)
/-- fulling/fullingref32.LivePoints (34 operations) -/
noncomputable def e177 : Eng.KE := (457, [.agg q85, .int .i64 9], .fs [.fs [] 0, .fs [.int .i64 15] 1, .fs [.int .i64 16] 1] 3)
/-- fulling/validate.Function (15206 operations) -/
noncomputable def e321 : Eng.KE := (22, [.agg q45, .int .i64 0, .fs q42 2, .agg q89, .agg q90], .bool true)

end Go.Proofs.YtmanhjinplhfjaaGreatDoor.validateExamples
