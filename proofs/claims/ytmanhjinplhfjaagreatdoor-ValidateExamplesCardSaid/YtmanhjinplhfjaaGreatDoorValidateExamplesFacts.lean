/-
  The row's closed facts, the heavy ones in pieces.
-/
import Derived.Test.YtmanhjinplhfjaaGreatDoorValidateExamplesFactsa
import Derived.Test.YtmanhjinplhfjaaGreatDoorValidateExamplesFactsb
import Derived.Test.YtmanhjinplhfjaaGreatDoorValidateExamplesFactsl
import Derived.Test.YtmanhjinplhfjaaGreatDoorValidateExamplesFactsm
import Derived.Test.YtmanhjinplhfjaaGreatDoorValidateExamplesFactsn
import Derived.Test.YtmanhjinplhfjaaGreatDoorRows
namespace Go.Proofs.YtmanhjinplhfjaaGreatDoor.validateExamples
theorem nt : Tryz.prog.types.size = 790 := by kernel_rfl
theorem j1a : (List.range Tryz.prog.types.size).all (rowFine Tryz.prog) = true := List.all_eq_true.2 fun t ht => by
  have h := List.mem_range.1 ht
  rw [nt] at h
  by_cases h0 : t < 395
  · exact List.all_eq_true.1 j1p0 t (List.mem_range'_1.2 (by omega))
  exact List.all_eq_true.1 j1p1 t (List.mem_range'_1.2 (by omega))
theorem j1b : (Tryz.prog.globals.all fun g => decide (g.type < Tryz.prog.types.size)) = true := by kernel_rfl
theorem j1c : (Tryz.prog.funcs.all fun f => f.params.all fun t => decide (t < Tryz.prog.types.size)) = true := by kernel_rfl
theorem j1 : laidOutB Tryz.prog = true := by unfold laidOutB; rw [j1a, j1b, j1c]; rfl
theorem both {a b : Bool} (h : a = true) (k : b = true) : (a && b) = true := by rw [h, k]; rfl
theorem grownAt (P : Program) : ∀ (k m : Nat) (s : List TypeId), P.grown (k + m) s = P.grown m (P.grown k s)
  | 0, m, s => by rw [Nat.zero_add]; rfl
  | k + 1, m, s => by
    rw [Nat.succ_add]
    exact grownAt P k m (P.grow s)
theorem grownFix (P : Program) {s : List TypeId} (h : P.grow s = s) : ∀ n, P.grown n s = s
  | 0 => rfl
  | n + 1 => by
    show P.grown n (P.grow s) = s
    rw [h]
    exact grownFix P h n
/-- what a type's book holds, with little fuel -/
theorem bookEq {t : TypeId} (h : Tryz.prog.grow (Tryz.prog.grown 6 [t]) = Tryz.prog.grown 6 [t]) : Tryz.prog.book t = Tryz.prog.grown 6 [t] := by
  unfold Program.book
  rw [nt, show 790 = 6 + 784 from rfl, grownAt, grownFix _ h]
theorem veiledOwn {t : TypeId} (h : Tryz.prog.veiledRec t = false) : Tryz.prog.veiledOwn t = true := by
  unfold Program.veiledOwn
  rw [h]
  rfl
theorem bk : Tryz.prog.book 4 = [4] := (bookEq (by kernel_rfl)).trans (by kernel_rfl)
theorem rts : Tryz.f3.resultTypes = #[4] := by kernel_rfl
theorem ts : (Tryz.f3.params.toList ++ (OpenSpec.ofChange Rows.validateExamplesSpec).bare.plain.varTypes Tryz.prog ++ Tryz.f3.resultTypes.toList) = [4] := by kernel_rfl
theorem j17 : (Rows.validateExamplesRow.wideKeys == (Tryz.f3.params.toList ++ (OpenSpec.ofChange Rows.validateExamplesSpec).bare.plain.varTypes Tryz.prog ++ Tryz.f3.resultTypes.toList).any (Tryz.prog.wideKeysFrom ·)) = true := by
  rw [ts, List.any_cons, List.any_nil]
  unfold Program.wideKeysFrom
  rw [bk]
  kernel_rfl
theorem j19 : (Tryz.f3.resultTypes.all fun t => Tryz.prog.readableRec t && decide (t < Tryz.prog.types.size)) = true := by
  have h : Tryz.prog.readableRec 4 = true := by
    unfold Program.readableRec
    rw [bk]
    kernel_rfl
  rw [rts, nt]
  simp [h]
theorem j20 : (Rows.validateExamplesRow.ifacesOut == Tryz.f3.resultTypes.toList.any (Tryz.prog.ifacesRec ·)) = true := by
  rw [rts]
  show (Rows.validateExamplesRow.ifacesOut == [4].any (Tryz.prog.ifacesRec ·)) = true
  rw [List.any_cons, List.any_nil]
  unfold Program.ifacesRec
  rw [bk]
  kernel_rfl
theorem j21 : (Rows.validateExamplesRow.loopsOut == Tryz.f3.resultTypes.toList.any (Tryz.prog.loopsFrom ·)) = true := by
  rw [rts]
  show (Rows.validateExamplesRow.loopsOut == [4].any (Tryz.prog.loopsFrom ·)) = true
  rw [List.any_cons, List.any_nil]
  unfold Program.loopsFrom
  rw [bk]
  kernel_rfl
theorem j30 : (Rows.validateExamplesRow.veiled == (Tryz.f3.params.toList ++ (OpenSpec.ofChange Rows.validateExamplesSpec).bare.plain.varTypes Tryz.prog ++ Tryz.f3.resultTypes.toList).any (Tryz.prog.veiledRec ·)) = true := by
  rw [ts, List.any_cons, List.any_nil]
  unfold Program.veiledRec
  rw [bk]
  kernel_rfl
theorem lts : (Rows.validateExamplesRow.laid.filterMap fun x => (Tryz.prog.globalNamed x.1).bind fun g => (Tryz.prog.globals[g]?).map (·.type)) = [575, 762, 774, 775] := by kernel_rfl
theorem vo4 : Tryz.prog.veiledOwn 4 = true := veiledOwn (by
  unfold Program.veiledRec
  rw [bookEq (by kernel_rfl)]
  kernel_rfl)
theorem vo575 : Tryz.prog.veiledOwn 575 = true := veiledOwn (by
  unfold Program.veiledRec
  rw [bookEq (by kernel_rfl)]
  kernel_rfl)
theorem vo762 : Tryz.prog.veiledOwn 762 = true := veiledOwn (by
  unfold Program.veiledRec
  rw [bookEq (by kernel_rfl)]
  kernel_rfl)
theorem vo774 : Tryz.prog.veiledOwn 774 = true := veiledOwn (by
  unfold Program.veiledRec
  rw [bookEq (by kernel_rfl)]
  kernel_rfl)
theorem vo775 : Tryz.prog.veiledOwn 775 = true := veiledOwn (by
  unfold Program.veiledRec
  rw [bookEq (by kernel_rfl)]
  kernel_rfl)
theorem j31 : Rows.validateExamplesRow.veiledFits Tryz.prog Tryz.f3.params.toList (Tryz.f3.params.toList ++ (OpenSpec.ofChange Rows.validateExamplesSpec).bare.plain.varTypes Tryz.prog ++ Tryz.f3.resultTypes.toList) = true := by
  unfold OpenClaim.veiledFits
  rw [ts, lts]
  have h : ([4] ++ [575, 762, 774, 775]).all (Tryz.prog.veiledOwn ·) = true := by
    simp only [List.cons_append, List.nil_append, List.all_cons, List.all_nil, vo4, vo575, vo762, vo774, vo775]
    rfl
  rw [h]
  rfl
theorem facts : joinedFacts Tryz.pinned.checked.prog 3 Tryz.f3 (OpenSpec.ofChange Rows.validateExamplesSpec).bare Rows.validateExamplesRow = true := both (both (both (both (both (both (both (both (both (both (both (both (both (both (both (both (both (both (both (both (both (both (both (both (both (both (both (both (both (both (both ((by kernel_rfl)) j1) j2) (by kernel_rfl)) (by kernel_rfl)) (by kernel_rfl)) (by kernel_rfl)) (by kernel_rfl)) (by kernel_rfl)) j9) j10) j11) j12) (by kernel_rfl)) (by kernel_rfl)) (by kernel_rfl)) (by kernel_rfl)) j17) (by kernel_rfl)) j19) j20) j21) (by kernel_rfl)) (by kernel_rfl)) j24) j25) (by kernel_rfl)) (by kernel_rfl)) (by kernel_rfl)) (by kernel_rfl)) j30) j31
end Go.Proofs.YtmanhjinplhfjaaGreatDoor.validateExamples
