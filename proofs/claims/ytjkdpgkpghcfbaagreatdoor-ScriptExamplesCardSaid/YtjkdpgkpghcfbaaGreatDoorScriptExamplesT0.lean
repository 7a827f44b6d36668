/-
  What is known up to level 0, and what level 1 speaks of.
-/
import Derived.Test.YtjkdpgkpghcfbaaGreatDoorScriptExamplesData
namespace Go.Proofs.YtjkdpgkpghcfbaaGreatDoor.scriptExamples
/-- fulling/script.parse (496 operations) -/
noncomputable def e0 : Eng.KE := (6, [.str ⟨#[114, 117, 110, 32, 102, 32, 57, 32, 51]⟩], .tup [.agg [.fs [.str ⟨#[114, 117, 110]⟩, .str ⟨#[102]⟩, .str ⟨#[57]⟩, .str ⟨#[51]⟩] 4, .fs [.int .i64 9, .int .i64 3] 2], .bool true])
/-- fulling/script.parse (99 operations) -/
noncomputable def e1 : Eng.KE := (6, [.str ⟨#[99, 111, 109, 112, 105, 108, 101]⟩], .tup [.agg [.fs [.str ⟨#[99, 111, 109, 112, 105, 108, 101]⟩] 1, .fs [] 0], .bool true])
/-- fulling/script.parse (498 operations) -/
noncomputable def e2 : Eng.KE := (6, [.str ⟨#[115, 111, 117, 114, 99, 101, 32, 102, 32, 57, 32, 51]⟩], .tup [.agg [.fs [.str ⟨#[115, 111, 117, 114, 99, 101]⟩, .str ⟨#[102]⟩, .str ⟨#[57]⟩, .str ⟨#[51]⟩] 4, .fs [.int .i64 9, .int .i64 3] 2], .bool true])
/-- fulling/script.parse (171 operations) -/
noncomputable def e3 : Eng.KE := (6, [.str ⟨#[99, 111, 115, 116, 32, 102]⟩], .tup [.agg [.fs [.str ⟨#[99, 111, 115, 116]⟩, .str ⟨#[102]⟩] 2, .fs [] 0], .bool true])
/-- fulling/script.parse (101 operations) -/
noncomputable def e4 : Eng.KE := (6, [.str ⟨#[118, 97, 108, 105, 100, 97, 116, 101]⟩], .tup [.agg [.fs [.str ⟨#[118, 97, 108, 105, 100, 97, 116, 101]⟩] 1, .fs [] 0], .bool true])
/-- fulling/script.parse (337 operations) -/
noncomputable def e5 : Eng.KE := (6, [.str ⟨#[114, 117, 110, 32, 103, 32, 57]⟩], .tup [.agg [.fs [.str ⟨#[114, 117, 110]⟩, .str ⟨#[103]⟩, .str ⟨#[57]⟩] 3, .fs [.int .i64 9] 1], .bool true])
/-- fulling/parser.Parse (8947 operations) -/
noncomputable def e6 : Eng.KE := (15, [.str ⟨#[102, 117, 110, 99, 32, 102, 40, 120, 41, 32, 123, 32, 111, 117, 116, 32, 120, 59, 32, 114, 101, 116, 117, 114, 110, 32, 120, 32, 42, 32, 50, 59, 32, 125, 10]⟩], .tup [.agg q0, .agg [.int .i64 0, .int .i64 0]])
/-- fulling/rules.Parse (6959 operations) -/
noncomputable def e7 : Eng.KE := (25, [.str ⟨#[114, 117, 108, 101, 32, 116, 119, 111, 58, 32, 40, 109, 117, 108, 32, 63, 97, 32, 50, 41, 32, 61, 62, 32, 40, 97, 100, 100, 32, 63, 97, 32, 63, 97, 41, 59, 10]⟩], .tup [.fs q3 1, .agg [.int .i64 0, .int .i64 0]])
/-- fulling/rules.Parse (5445 operations) -/
noncomputable def e8 : Eng.KE := (25, [.str ⟨#[114, 117, 108, 101, 32, 100, 105, 118, 45, 111, 110, 101, 58, 32, 40, 100, 105, 118, 32, 63, 97, 32, 49, 41, 32, 61, 62, 32, 63, 97, 59]⟩], .tup [.fs q5 1, .agg [.int .i64 0, .int .i64 0]])
/-- fulling/rules.Parse (7078 operations) -/
noncomputable def e10 : Eng.KE := (25, [.str ⟨#[114, 117, 108, 101, 32, 100, 105, 118, 45, 115, 101, 108, 102, 58, 32, 40, 100, 105, 118, 32, 63, 97, 32, 63, 97, 41, 32, 61, 62, 32, 49, 32, 105, 102, 32, 110, 111, 110, 122, 101, 114, 111, 32, 63, 97, 59]⟩], .tup [.fs q6 1, .agg [.int .i64 0, .int .i64 0]])
/-- fulling/rules.Parse (7006 operations) -/
noncomputable def e12 : Eng.KE := (25, [.str ⟨#[114, 117, 108, 101, 32, 100, 105, 118, 45, 109, 105, 110, 117, 115, 58, 32, 40, 100, 105, 118, 32, 63, 97, 32, 45, 49, 41, 32, 61, 62, 32, 40, 110, 101, 103, 32, 63, 97, 41, 59]⟩], .tup [.fs q7 1, .agg [.int .i64 0, .int .i64 0]])
/-- fulling/rules.Parse (5495 operations) -/
noncomputable def e14 : Eng.KE := (25, [.str ⟨#[114, 117, 108, 101, 32, 100, 105, 118, 45, 122, 101, 114, 111, 58, 32, 40, 100, 105, 118, 32, 48, 32, 63, 97, 41, 32, 61, 62, 32, 48, 59]⟩], .tup [.fs q8 1, .agg [.int .i64 0, .int .i64 0]])
/-- fulling/rules.Parse (5412 operations) -/
noncomputable def e16 : Eng.KE := (25, [.str ⟨#[114, 117, 108, 101, 32, 114, 101, 109, 45, 111, 110, 101, 58, 32, 40, 114, 101, 109, 32, 63, 97, 32, 49, 41, 32, 61, 62, 32, 48, 59]⟩], .tup [.fs q9 1, .agg [.int .i64 0, .int .i64 0]])
/-- fulling/rules.Parse (5550 operations) -/
noncomputable def e18 : Eng.KE := (25, [.str ⟨#[114, 117, 108, 101, 32, 114, 101, 109, 45, 115, 101, 108, 102, 58, 32, 40, 114, 101, 109, 32, 63, 97, 32, 63, 97, 41, 32, 61, 62, 32, 48, 59]⟩], .tup [.fs q10 1, .agg [.int .i64 0, .int .i64 0]])
/-- fulling/rules.Parse (12801 operations) -/
noncomputable def e20 : Eng.KE := (25, [.str ⟨#[114, 117, 108, 101, 32, 114, 101, 109, 45, 100, 105, 118, 58, 32, 40, 114, 101, 109, 32, 63, 97, 32, 63, 98, 41, 32, 61, 62, 32, 40, 115, 117, 98, 32, 63, 97, 32, 40, 109, 117, 108, 32, 40, 100, 105, 118, 32, 63, 97, 32, 63, 98, 41, 32, 63, 98, 41, 41, 32, 105, 102, 32, 110, 111, 110, 122, 101, 114, 111, 32, 63, 98, 59]⟩], .tup [.fs q12 1, .agg [.int .i64 0, .int .i64 0]])
/-- fulling/rules.Parse (7771 operations) -/
noncomputable def e22 : Eng.KE := (25, [.str ⟨#[114, 117, 108, 101, 32, 110, 101, 101, 100, 45, 116, 114, 117, 101, 58, 32, 40, 110, 101, 101, 100, 46, 107, 32, 63, 97, 32, 63, 98, 41, 32, 61, 62, 32, 63, 97, 32, 105, 102, 32, 110, 111, 110, 122, 101, 114, 111, 32, 63, 98, 59]⟩], .tup [.fs q13 1, .agg [.int .i64 0, .int .i64 0]])
/-- fulling/rules.Parse (11100 operations) -/
noncomputable def e24 : Eng.KE := (25, [.str ⟨#[114, 117, 108, 101, 32, 110, 101, 101, 100, 45, 116, 119, 105, 99, 101, 58, 32, 40, 110, 101, 101, 100, 46, 107, 32, 40, 110, 101, 101, 100, 46, 107, 32, 63, 97, 32, 63, 98, 41, 32, 63, 98, 41, 32, 61, 62, 32, 40, 110, 101, 101, 100, 46, 107, 32, 63, 97, 32, 63, 98, 41, 59]⟩], .tup [.fs q14 1, .agg [.int .i64 0, .int .i64 0]])
/-- fulling/rules.Parse (11278 operations) -/
noncomputable def e26 : Eng.KE := (25, [.str ⟨#[114, 117, 108, 101, 32, 108, 111, 97, 100, 45, 115, 116, 111, 114, 101, 58, 32, 40, 108, 111, 97, 100, 46, 107, 32, 40, 115, 116, 111, 114, 101, 46, 107, 32, 63, 97, 32, 63, 98, 32, 63, 99, 41, 32, 63, 98, 41, 32, 61, 62, 32, 63, 99, 32, 105, 102, 32, 105, 110, 115, 105, 100, 101, 32, 63, 98, 32, 107, 59]⟩], .tup [.fs q16 1, .agg [.int .i64 0, .int .i64 0]])
/-- fulling/rules.Parse (13733 operations) -/
noncomputable def e28 : Eng.KE := (25, [.str ⟨#[114, 117, 108, 101, 32, 108, 111, 97, 100, 45, 97, 112, 97, 114, 116, 58, 32, 40, 108, 111, 97, 100, 46, 107, 32, 40, 115, 116, 111, 114, 101, 46, 107, 32, 63, 97, 32, 63, 98, 32, 63, 99, 41, 32, 63, 100, 41, 32, 61, 62, 32, 40, 108, 111, 97, 100, 46, 107, 32, 63, 97, 32, 63, 100, 41, 32, 105, 102, 32, 97, 112, 97, 114, 116, 32, 63, 98, 32, 63, 100, 59]⟩], .tup [.fs q19 1, .agg [.int .i64 0, .int .i64 0]])
/-- fulling/rules.Parse (13619 operations) -/
noncomputable def e30 : Eng.KE := (25, [.str ⟨#[114, 117, 108, 101, 32, 108, 111, 97, 100, 45, 111, 116, 104, 101, 114, 58, 32, 40, 108, 111, 97, 100, 46, 107, 32, 40, 115, 116, 111, 114, 101, 46, 108, 32, 63, 97, 32, 63, 98, 32, 63, 99, 41, 32, 63, 100, 41, 32, 61, 62, 32, 40, 108, 111, 97, 100, 46, 107, 32, 63, 97, 32, 63, 100, 41, 32, 105, 102, 32, 117, 110, 108, 105, 107, 101, 32, 107, 32, 108, 59]⟩], .tup [.fs q21 1, .agg [.int .i64 0, .int .i64 0]])
/-- fulling/rules.Parse (10959 operations) -/
noncomputable def e32 : Eng.KE := (25, [.str ⟨#[114, 117, 108, 101, 32, 108, 111, 97, 100, 45, 110, 101, 101, 100, 58, 32, 40, 108, 111, 97, 100, 46, 107, 32, 40, 110, 101, 101, 100, 46, 108, 32, 63, 97, 32, 63, 98, 41, 32, 63, 99, 41, 32, 61, 62, 32, 40, 108, 111, 97, 100, 46, 107, 32, 63, 97, 32, 63, 99, 41, 59]⟩], .tup [.fs q23 1, .agg [.int .i64 0, .int .i64 0]])
/-- fulling/rules.Parse (10538 operations) -/
noncomputable def e34 : Eng.KE := (25, [.str ⟨#[114, 117, 108, 101, 32, 108, 111, 97, 100, 45, 111, 117, 116, 58, 32, 40, 108, 111, 97, 100, 46, 107, 32, 40, 111, 117, 116, 32, 63, 97, 32, 63, 98, 41, 32, 63, 99, 41, 32, 61, 62, 32, 40, 108, 111, 97, 100, 46, 107, 32, 63, 97, 32, 63, 99, 41, 59]⟩], .tup [.fs q24 1, .agg [.int .i64 0, .int .i64 0]])
/-- fulling/rules.Parse (13535 operations) -/
noncomputable def e36 : Eng.KE := (25, [.str ⟨#[114, 117, 108, 101, 32, 115, 116, 111, 114, 101, 45, 115, 116, 111, 114, 101, 58, 32, 40, 115, 116, 111, 114, 101, 46, 107, 32, 40, 115, 116, 111, 114, 101, 46, 107, 32, 63, 97, 32, 63, 98, 32, 63, 99, 41, 32, 63, 98, 32, 63, 100, 41, 32, 61, 62, 32, 40, 115, 116, 111, 114, 101, 46, 107, 32, 63, 97, 32, 63, 98, 32, 63, 100, 41, 59]⟩], .tup [.fs q25 1, .agg [.int .i64 0, .int .i64 0]])
/-- fulling/rules.Parse (18618 operations) -/
noncomputable def e38 : Eng.KE := (25, [.str ⟨#[114, 117, 108, 101, 32, 115, 116, 111, 114, 101, 45, 115, 119, 97, 112, 58, 32, 40, 115, 116, 111, 114, 101, 46, 107, 32, 40, 115, 116, 111, 114, 101, 46, 107, 32, 63, 97, 32, 63, 98, 32, 63, 99, 41, 32, 63, 100, 32, 63, 101, 41, 32, 61, 62, 32, 40, 115, 116, 111, 114, 101, 46, 107, 32, 40, 115, 116, 111, 114, 101, 46, 107, 32, 63, 97, 32, 63, 100, 32, 63, 101, 41, 32, 63, 98, 32, 63, 99, 41, 32, 105, 102, 32, 97, 112, 97, 114, 116, 32, 63, 98, 32, 63, 100, 59]⟩], .tup [.fs q26 1, .agg [.int .i64 0, .int .i64 0]])
/-- fulling/rules.Parse (9366 operations) -/
noncomputable def e40 : Eng.KE := (25, [.str ⟨#[114, 117, 108, 101, 32, 115, 116, 111, 114, 101, 45, 108, 111, 97, 100, 58, 32, 40, 115, 116, 111, 114, 101, 46, 107, 32, 63, 97, 32, 63, 98, 32, 40, 108, 111, 97, 100, 46, 107, 32, 63, 97, 32, 63, 98, 41, 41, 32, 61, 62, 32, 63, 97, 59]⟩], .tup [.fs q27 1, .agg [.int .i64 0, .int .i64 0]])
/-- fulling/rules.Parse (15164 operations) -/
noncomputable def e42 : Eng.KE := (25, [.str ⟨#[114, 117, 108, 101, 32, 115, 116, 111, 114, 101, 45, 110, 101, 101, 100, 58, 32, 40, 110, 101, 101, 100, 46, 108, 32, 40, 115, 116, 111, 114, 101, 46, 107, 32, 63, 97, 32, 63, 98, 32, 63, 99, 41, 32, 63, 100, 41, 32, 61, 62, 32, 40, 115, 116, 111, 114, 101, 46, 107, 32, 40, 110, 101, 101, 100, 46, 108, 32, 63, 97, 32, 63, 100, 41, 32, 63, 98, 32, 63, 99, 41, 59]⟩], .tup [.fs q28 1, .agg [.int .i64 0, .int .i64 0]])
/-- fulling/rules.Parse (14429 operations) -/
noncomputable def e44 : Eng.KE := (25, [.str ⟨#[114, 117, 108, 101, 32, 115, 116, 111, 114, 101, 45, 111, 117, 116, 58, 32, 40, 111, 117, 116, 32, 40, 115, 116, 111, 114, 101, 46, 107, 32, 63, 97, 32, 63, 98, 32, 63, 99, 41, 32, 63, 100, 41, 32, 61, 62, 32, 40, 115, 116, 111, 114, 101, 46, 107, 32, 40, 111, 117, 116, 32, 63, 97, 32, 63, 100, 41, 32, 63, 98, 32, 63, 99, 41, 59]⟩], .tup [.fs q29 1, .agg [.int .i64 0, .int .i64 0]])
/-- fulling/rules.Parse (8731 operations) -/
noncomputable def e46 : Eng.KE := (25, [.str ⟨#[114, 117, 108, 101, 32, 114, 101, 116, 45, 110, 101, 101, 100, 58, 32, 40, 114, 101, 116, 32, 40, 110, 101, 101, 100, 46, 107, 32, 63, 97, 32, 63, 98, 41, 41, 32, 61, 62, 32, 40, 114, 101, 116, 32, 63, 97, 41, 59]⟩], .tup [.fs q30 1, .agg [.int .i64 0, .int .i64 0]])
/-- fulling/rules.Parse (8321 operations) -/
noncomputable def e48 : Eng.KE := (25, [.str ⟨#[114, 117, 108, 101, 32, 114, 101, 116, 45, 111, 117, 116, 58, 32, 40, 114, 101, 116, 32, 40, 111, 117, 116, 32, 63, 97, 32, 63, 98, 41, 41, 32, 61, 62, 32, 40, 114, 101, 116, 32, 63, 97, 41, 59]⟩], .tup [.fs q31 1, .agg [.int .i64 0, .int .i64 0]])
/-- fulling/rules.Parse (9601 operations) -/
noncomputable def e50 : Eng.KE := (25, [.str ⟨#[114, 117, 108, 101, 32, 114, 101, 116, 45, 115, 116, 111, 114, 101, 58, 32, 40, 114, 101, 116, 32, 40, 115, 116, 111, 114, 101, 46, 107, 32, 63, 97, 32, 63, 98, 32, 63, 99, 41, 41, 32, 61, 62, 32, 40, 114, 101, 116, 32, 63, 97, 41, 59]⟩], .tup [.fs q32 1, .agg [.int .i64 0, .int .i64 0]])
/-- fulling/polynomial.Normalize (715 operations) -/
noncomputable def e52 : Eng.KE := (344, [.agg [.int .i64 0, .int .i64 6, .int .i64 0, .int .i64 0, .fs q1 2], .int .i64 1], .tup [.fs [.fs [.int .i64 1] 1, .int .u64 2] 1, .bool true])
/-- fulling/polynomial.Normalize (661 operations) -/
noncomputable def e53 : Eng.KE := (344, [.agg [.int .i64 0, .int .i64 4, .int .i64 0, .int .i64 0, .fs q2 2], .int .i64 1], .tup [.fs [.fs [.int .i64 1] 1, .int .u64 2] 1, .bool true])
/-- fulling/extract.Minimum (25229 operations) -/
noncomputable def e56 : Eng.KE := (62, [.agg q35, .int .i64 400], .tup [.fs [.int .i64 0, .int .i64 1, .int .i64 2, .int .i64 (-1), .int .i64 5, .int .i64 (-1)] 6, .int .i64 5, .agg [.int .i64 3, .int .i64 4, .fs [.int .i64 1, .int .i64 0, .fs [] 0, .int .i64 1, .int .i64 0, .fs [] 0] 2], .int .i64 0])
/-- fulling/regalloc.Allocate (21155 operations) -/
noncomputable def e58 : Eng.KE := (68, [.agg q38], .tup [.agg q39, .int .i64 0])
/-- fulling/layout.Emit (21389 operations) -/
noncomputable def e59 : Eng.KE := (69, [.fs q38 1, .fs q39 1, .fs [] 0], .tup [.agg q40, .fs [.fs [.int .i64 1] 1] 1, .int .i64 0])
/-- fulling/interp.Run (2595 operations) -/
noncomputable def e63 : Eng.KE := (16, [.agg q0, .str ⟨#[102]⟩, .fs [.int .i64 3] 1, .int .i64 9], .agg [.int .i64 1, .int .i64 0, .fs [.int .i64 3] 1, .int .i64 6])
/-- fulling/replay.CheckProof (22695 operations) -/
noncomputable def e64 : Eng.KE := (199, [.fs q3 1, .fs [] 0, .fs [] 0, .agg [.fs q34 6, .fs [.int .i64 4, .int .i64 5, .int .i64 1, .fs [.int .i64 1] 1, .fs [] 0] 1, .int .i64 4, .int .i64 5]], .bool true)
/-- fulling/replay.CheckProof (22673 operations) -/
noncomputable def e65 : Eng.KE := (199, [.fs q3 1, .fs [] 0, .fs [] 0, .agg [.fs q34 6, .fs [.int .i64 4, .int .i64 5, .int .i64 1, .fs [.int .i64 1] 1, .fs [] 0] 1, .int .i64 2, .int .i64 2]], .bool true)
/-- fulling/symexec.Execute (12434 operations) -/
noncomputable def e66 : Eng.KE := (200, [.agg q40, .int .i64 0, .fs [] 0, .fs [] 0], .tup [.agg [.str ⟨#[]⟩, .int .i64 1, .fs q36 4, .int .i64 1, .int .i64 3], .bool true])
/-- fulling/script.parse (265 operations) -/
noncomputable def e69 : Eng.KE := (6, [.str ⟨#[114, 117, 110, 32, 102, 32, 32, 51]⟩], .tup [.agg [.fs [] 0, .fs [] 0], .bool false])

end Go.Proofs.YtjkdpgkpghcfbaaGreatDoor.scriptExamples
