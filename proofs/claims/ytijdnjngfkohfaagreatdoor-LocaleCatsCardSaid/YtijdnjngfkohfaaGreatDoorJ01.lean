/- What the program forces of the row of LocaleCats. -/
import Derived.Test.YtijdnjngfkohfaaGreatDoorRows
import Derived.Test.YtijdnjngfkohfaaGreatDoorProg
import Derived.JoinedOf
import Derived.KernelRfl
set_option linter.unusedVariables false
set_option linter.unusedSimpArgs false
set_option maxRecDepth 100000
set_option maxHeartbeats 4000000

namespace Go.Proofs.YtijdnjngfkohfaaGreatDoor
open Go
theorem localeCats_tt {a b : Bool} (h : a = true) (k : b = true) : (a && b) = true := by rw [h, k]; rfl
theorem localeCats_j0 : (Rows.localeCatsRow.wf (OpenSpec.ofChange Rows.localeCatsSpec)) = true := by kernel_rfl
theorem localeCats_j1 : (laidOutB Tryz.prog) = true := by kernel_rfl
theorem localeCats_j2 : (mapsRowed Tryz.prog) = true := by kernel_rfl
theorem localeCats_j3 : (Tryz.f3.params.all (Tryz.prog.readableRec ·)) = true := by kernel_rfl
theorem localeCats_j4 : (namedTie Tryz.prog Rows.localeCatsRow.named Rows.localeCatsSpec.vars) = true := by kernel_rfl
theorem localeCats_j5 : ((Rows.localeCatsRow.stops == [])) = true := by kernel_rfl
theorem localeCats_j6 : ((Tryz.prog.stops == [])) = true := by kernel_rfl
theorem localeCats_j7 : ((Rows.localeCatsRow.knobs == [])) = true := by kernel_rfl
theorem localeCats_j8 : ((Tryz.prog.stopKnobs == [])) = true := by kernel_rfl
theorem localeCats_j9 : ((Rows.localeCatsRow.inPlace == Tryz.prog.inPlace 3)) = true := by kernel_rfl
theorem localeCats_j10 : ((Rows.localeCatsRow.unfollowed == Tryz.prog.unfollowed 3)) = true := by kernel_rfl
theorem localeCats_j11 : ((Rows.localeCatsRow.recurses == Tryz.prog.recurses 3)) = true := by kernel_rfl
theorem localeCats_j12 : ((Rows.localeCatsRow.named == Tryz.prog.varsNamed 3)) = true := by kernel_rfl
theorem localeCats_j13 : ((Rows.localeCatsRow.maps == (Tryz.f3.params.toList ++ Rows.localeCatsSpec.plain.varTypes Tryz.prog).any (Tryz.prog.mapsRec ·))) = true := by kernel_rfl
theorem localeCats_j14 : ((Rows.localeCatsRow.ifaces == (Tryz.f3.params.toList ++ Rows.localeCatsSpec.plain.varTypes Tryz.prog).any (Tryz.prog.ifacesRec ·))) = true := by kernel_rfl
theorem localeCats_j15 : ((Rows.localeCatsRow.mapsOut == Tryz.prog.mapsAmong Tryz.f3.resultTypes.toList)) = true := by kernel_rfl
theorem localeCats_j16 : ((Rows.localeCatsRow.loops == (Tryz.f3.params.toList ++ Rows.localeCatsSpec.plain.varTypes Tryz.prog).any (Tryz.prog.loopsFrom ·))) = true := by kernel_rfl
theorem localeCats_j17 : ((Rows.localeCatsRow.wideKeys == (Tryz.f3.params.toList ++ Rows.localeCatsSpec.plain.varTypes Tryz.prog ++ Tryz.f3.resultTypes.toList).any (Tryz.prog.wideKeysFrom ·))) = true := by kernel_rfl
theorem localeCats_j18 : (Rows.localeCatsSpec.vars.all (Tryz.prog.varReadable ·)) = true := by kernel_rfl
theorem localeCats_j19 : (Tryz.f3.resultTypes.all (fun t => Tryz.prog.readableRec t && decide (t < Tryz.prog.types.size))) = true := by kernel_rfl
theorem localeCats_j20 : ((Rows.localeCatsRow.ifacesOut == Tryz.f3.resultTypes.toList.any (Tryz.prog.ifacesRec ·))) = true := by kernel_rfl
theorem localeCats_j21 : ((Rows.localeCatsRow.loopsOut == Tryz.f3.resultTypes.toList.any (Tryz.prog.loopsFrom ·))) = true := by kernel_rfl
theorem localeCats_j22 : ((Rows.localeCatsRow.plainKeys == Tryz.prog.plainKeys)) = true := by kernel_rfl
theorem localeCats_j23 : (Rows.localeCatsRow.shortTexts.isNone) = true := by kernel_rfl
theorem localeCats_j24 : (Tryz.prog.stopsHeard) = true := by kernel_rfl
theorem localeCats_j25 : (Tryz.prog.mayEnter) = true := by kernel_rfl
theorem localeCats_j26 : ((Rows.localeCatsRow.lifted == Tryz.prog.liftsFinal)) = true := by kernel_rfl
theorem localeCats_j27 : ((Tryz.prog.make == some Rows.localeCatsRow.make)) = true := by kernel_rfl
theorem localeCats_j28 : ((Rows.localeCatsRow.kinds == (if Rows.localeCatsRow.domain.isEmpty then [] else Tryz.f3.params.toList.map fun t => match Tryz.prog.underlying t with | some (.int k) => some k | _ => none))) = true := by kernel_rfl
theorem localeCats_j29 : ((Rows.localeCatsRow.pinned == Rows.localeCatsRow.pinnedBy)) = true := by kernel_rfl
theorem localeCats_j30 : ((Rows.localeCatsRow.veiled == (Tryz.f3.params.toList ++ Rows.localeCatsSpec.plain.varTypes Tryz.prog ++ Tryz.f3.resultTypes.toList).any (Tryz.prog.veiledRec ·))) = true := by kernel_rfl
theorem localeCats_j31 : (Rows.localeCatsRow.veiledFits Tryz.prog Tryz.f3.params.toList (Tryz.f3.params.toList ++ Rows.localeCatsSpec.plain.varTypes Tryz.prog ++ Tryz.f3.resultTypes.toList)) = true := by kernel_rfl
theorem localeCats_joined : joinedFacts Tryz.prog 3 Tryz.f3 Rows.localeCatsSpec Rows.localeCatsRow = true := localeCats_tt (localeCats_tt (localeCats_tt (localeCats_tt (localeCats_tt (localeCats_tt (localeCats_tt (localeCats_tt (localeCats_tt (localeCats_tt (localeCats_tt (localeCats_tt (localeCats_tt (localeCats_tt (localeCats_tt (localeCats_tt (localeCats_tt (localeCats_tt (localeCats_tt (localeCats_tt (localeCats_tt (localeCats_tt (localeCats_tt (localeCats_tt (localeCats_tt (localeCats_tt (localeCats_tt (localeCats_tt (localeCats_tt (localeCats_tt (localeCats_tt (localeCats_j0) localeCats_j1) localeCats_j2) localeCats_j3) localeCats_j4) localeCats_j5) localeCats_j6) localeCats_j7) localeCats_j8) localeCats_j9) localeCats_j10) localeCats_j11) localeCats_j12) localeCats_j13) localeCats_j14) localeCats_j15) localeCats_j16) localeCats_j17) localeCats_j18) localeCats_j19) localeCats_j20) localeCats_j21) localeCats_j22) localeCats_j23) localeCats_j24) localeCats_j25) localeCats_j26) localeCats_j27) localeCats_j28) localeCats_j29) localeCats_j30) localeCats_j31
end Go.Proofs.YtijdnjngfkohfaaGreatDoor
