/-
  What is known up to level 2, and what level 3 speaks of.
-/
import Derived.Test.YtjkdpgkpghcfbaaGreatDoorScriptExamplesK2a
import Derived.Test.YtjkdpgkpghcfbaaGreatDoorScriptExamplesK2b
namespace Go.Proofs.YtjkdpgkpghcfbaaGreatDoor.scriptExamples
theorem k9 : Eng.Known Tryz.prog e9 := Eng.known_of mixed (Eng.mxTab_ok spOk known1) noNum c9
theorem k11 : Eng.Known Tryz.prog e11 := Eng.known_of mixed (Eng.mxTab_ok spOk known1) noNum c11
theorem k13 : Eng.Known Tryz.prog e13 := Eng.known_of mixed (Eng.mxTab_ok spOk known1) noNum c13
theorem k15 : Eng.Known Tryz.prog e15 := Eng.known_of mixed (Eng.mxTab_ok spOk known1) noNum c15
theorem k17 : Eng.Known Tryz.prog e17 := Eng.known_of mixed (Eng.mxTab_ok spOk known1) noNum c17
theorem k19 : Eng.Known Tryz.prog e19 := Eng.known_of mixed (Eng.mxTab_ok spOk known1) noNum c19
theorem k21 : Eng.Known Tryz.prog e21 := Eng.known_of mixed (Eng.mxTab_ok spOk known1) noNum c21
theorem k23 : Eng.Known Tryz.prog e23 := Eng.known_of mixed (Eng.mxTab_ok spOk known1) noNum c23
theorem k25 : Eng.Known Tryz.prog e25 := Eng.known_of mixed (Eng.mxTab_ok spOk known1) noNum c25
theorem k27 : Eng.Known Tryz.prog e27 := Eng.known_of mixed (Eng.mxTab_ok spOk known1) noNum c27
theorem k29 : Eng.Known Tryz.prog e29 := Eng.known_of mixed (Eng.mxTab_ok spOk known1) noNum c29
theorem k31 : Eng.Known Tryz.prog e31 := Eng.known_of mixed (Eng.mxTab_ok spOk known1) noNum c31
theorem k33 : Eng.Known Tryz.prog e33 := Eng.known_of mixed (Eng.mxTab_ok spOk known1) noNum c33
theorem k35 : Eng.Known Tryz.prog e35 := Eng.known_of mixed (Eng.mxTab_ok spOk known1) noNum c35
theorem k37 : Eng.Known Tryz.prog e37 := Eng.known_of mixed (Eng.mxTab_ok spOk known1) noNum c37
theorem k39 : Eng.Known Tryz.prog e39 := Eng.known_of mixed (Eng.mxTab_ok spOk known1) noNum c39
theorem k41 : Eng.Known Tryz.prog e41 := Eng.known_of mixed (Eng.mxTab_ok spOk known1) noNum c41
theorem k43 : Eng.Known Tryz.prog e43 := Eng.known_of mixed (Eng.mxTab_ok spOk known1) noNum c43
theorem k45 : Eng.Known Tryz.prog e45 := Eng.known_of mixed (Eng.mxTab_ok spOk known1) noNum c45
theorem k47 : Eng.Known Tryz.prog e47 := Eng.known_of mixed (Eng.mxTab_ok spOk known1) noNum c47
theorem k49 : Eng.Known Tryz.prog e49 := Eng.known_of mixed (Eng.mxTab_ok spOk known1) noNum c49
theorem k51 : Eng.Known Tryz.prog e51 := Eng.known_of mixed (Eng.mxTab_ok spOk known1) noNum c51
theorem k57 : Eng.Known Tryz.prog e57 := Eng.known_of mixed (Eng.mxTab_ok spOk known1) noNum c57
theorem k60 : Eng.Known Tryz.prog e60 := Eng.known_of mixed (Eng.mxTab_ok spOk known1) noNum c60
theorem k62 : Eng.Known Tryz.prog e62 := Eng.known_of mixed (Eng.mxTab_ok spOk known1) noNum c62
theorem k68 : Eng.Known Tryz.prog e68 := Eng.known_of mixed (Eng.mxTab_ok spOk known1) noNum c68
noncomputable def tab2 : List Eng.KE := e68 :: e62 :: e60 :: e57 :: e51 :: e49 :: e47 :: e45 :: e43 :: e41 :: e39 :: e37 :: e35 :: e33 :: e31 :: e29 :: e27 :: e25 :: e23 :: e21 :: e19 :: e17 :: e15 :: e13 :: e11 :: e9 :: tab1
theorem known2 : ∀ e ∈ tab2, Eng.Known Tryz.prog e := Eng.known_cons k68 (Eng.known_cons k62 (Eng.known_cons k60 (Eng.known_cons k57 (Eng.known_cons k51 (Eng.known_cons k49 (Eng.known_cons k47 (Eng.known_cons k45 (Eng.known_cons k43 (Eng.known_cons k41 (Eng.known_cons k39 (Eng.known_cons k37 (Eng.known_cons k35 (Eng.known_cons k33 (Eng.known_cons k31 (Eng.known_cons k29 (Eng.known_cons k27 (Eng.known_cons k25 (Eng.known_cons k23 (Eng.known_cons k21 (Eng.known_cons k19 (Eng.known_cons k17 (Eng.known_cons k15 (Eng.known_cons k13 (Eng.known_cons k11 (Eng.known_cons k9 (known1))))))))))))))))))))))))))
/-- fulling/discharge.Prove (3943 operations) -/
noncomputable def e54 : Eng.KE := (116, [.agg q3], .tup [.agg [.int .i64 1, .fs [.fs [.int .i64 1] 1, .int .u64 2] 1, .fs [] 0, .str ⟨#[]⟩], .int .i64 0])

end Go.Proofs.YtjkdpgkpghcfbaaGreatDoor.scriptExamples
