/- What the program forces of the row of GroupWrites. -/
import Derived.Test.YtpbjjhpihhnomaaGreatDoorRows
import Derived.Test.YtpbjjhpihhnomaaGreatDoorProg
import Derived.JoinedOf
import Derived.KernelRfl
set_option linter.unusedVariables false
set_option linter.unusedSimpArgs false
set_option maxRecDepth 100000
set_option maxHeartbeats 4000000

namespace Go.Proofs.YtpbjjhpihhnomaaGreatDoor
open Go
theorem groupWrites_tt {a b : Bool} (h : a = true) (k : b = true) : (a && b) = true := by rw [h, k]; rfl
theorem groupWrites_j0 : (Rows.groupWritesRow.wf (OpenSpec.ofChange Rows.groupWritesSpec)) = true := by kernel_rfl
theorem groupWrites_j1 : (laidOutB Tryz.prog) = true := by kernel_rfl
theorem groupWrites_j2 : (mapsRowed Tryz.prog) = true := by kernel_rfl
theorem groupWrites_j3 : (Tryz.f5.params.all (Tryz.prog.readableRec ·)) = true := by kernel_rfl
theorem groupWrites_j4 : (namedTie Tryz.prog Rows.groupWritesRow.named Rows.groupWritesSpec.vars) = true := by kernel_rfl
theorem groupWrites_j5 : ((Rows.groupWritesRow.stops == [])) = true := by kernel_rfl
theorem groupWrites_j6 : ((Tryz.prog.stops == [])) = true := by kernel_rfl
theorem groupWrites_j7 : ((Rows.groupWritesRow.knobs == [])) = true := by kernel_rfl
theorem groupWrites_j8 : ((Tryz.prog.stopKnobs == [])) = true := by kernel_rfl
theorem groupWrites_j9 : ((Rows.groupWritesRow.inPlace == Tryz.prog.inPlace 5)) = true := by kernel_rfl
theorem groupWrites_j10 : ((Rows.groupWritesRow.unfollowed == Tryz.prog.unfollowed 5)) = true := by kernel_rfl
theorem groupWrites_j11 : ((Rows.groupWritesRow.recurses == Tryz.prog.recurses 5)) = true := by kernel_rfl
theorem groupWrites_j12 : ((Rows.groupWritesRow.named == Tryz.prog.varsNamed 5)) = true := by kernel_rfl
theorem groupWrites_j13 : ((Rows.groupWritesRow.maps == (Tryz.f5.params.toList ++ Rows.groupWritesSpec.plain.varTypes Tryz.prog).any (Tryz.prog.mapsRec ·))) = true := by kernel_rfl
theorem groupWrites_j14 : ((Rows.groupWritesRow.ifaces == (Tryz.f5.params.toList ++ Rows.groupWritesSpec.plain.varTypes Tryz.prog).any (Tryz.prog.ifacesRec ·))) = true := by kernel_rfl
theorem groupWrites_j15 : ((Rows.groupWritesRow.mapsOut == Tryz.prog.mapsAmong Tryz.f5.resultTypes.toList)) = true := by kernel_rfl
theorem groupWrites_j16 : ((Rows.groupWritesRow.loops == (Tryz.f5.params.toList ++ Rows.groupWritesSpec.plain.varTypes Tryz.prog).any (Tryz.prog.loopsFrom ·))) = true := by kernel_rfl
theorem groupWrites_j17 : ((Rows.groupWritesRow.wideKeys == (Tryz.f5.params.toList ++ Rows.groupWritesSpec.plain.varTypes Tryz.prog ++ Tryz.f5.resultTypes.toList).any (Tryz.prog.wideKeysFrom ·))) = true := by kernel_rfl
theorem groupWrites_j18 : (Rows.groupWritesSpec.vars.all (Tryz.prog.varReadable ·)) = true := by kernel_rfl
theorem groupWrites_j19 : (Tryz.f5.resultTypes.all (fun t => Tryz.prog.readableRec t && decide (t < Tryz.prog.types.size))) = true := by kernel_rfl
theorem groupWrites_j20 : ((Rows.groupWritesRow.ifacesOut == Tryz.f5.resultTypes.toList.any (Tryz.prog.ifacesRec ·))) = true := by kernel_rfl
theorem groupWrites_j21 : ((Rows.groupWritesRow.loopsOut == Tryz.f5.resultTypes.toList.any (Tryz.prog.loopsFrom ·))) = true := by kernel_rfl
theorem groupWrites_j22 : ((Rows.groupWritesRow.plainKeys == Tryz.prog.plainKeys)) = true := by kernel_rfl
theorem groupWrites_j23 : (Rows.groupWritesRow.shortTexts.isNone) = true := by kernel_rfl
theorem groupWrites_j24 : (Tryz.prog.stopsHeard) = true := by kernel_rfl
theorem groupWrites_j25 : (Tryz.prog.mayEnter) = true := by kernel_rfl
theorem groupWrites_j26 : ((Rows.groupWritesRow.lifted == Tryz.prog.liftsFinal)) = true := by kernel_rfl
theorem groupWrites_j27 : ((Tryz.prog.make == some Rows.groupWritesRow.make)) = true := by kernel_rfl
theorem groupWrites_j28 : ((Rows.groupWritesRow.kinds == (if Rows.groupWritesRow.domain.isEmpty then [] else Tryz.f5.params.toList.map fun t => match Tryz.prog.underlying t with | some (.int k) => some k | _ => none))) = true := by kernel_rfl
theorem groupWrites_j29 : ((Rows.groupWritesRow.pinned == Rows.groupWritesRow.pinnedBy)) = true := by kernel_rfl
theorem groupWrites_j30 : ((Rows.groupWritesRow.veiled == (Tryz.f5.params.toList ++ Rows.groupWritesSpec.plain.varTypes Tryz.prog ++ Tryz.f5.resultTypes.toList).any (Tryz.prog.veiledRec ·))) = true := by kernel_rfl
theorem groupWrites_j31 : (Rows.groupWritesRow.veiledFits Tryz.prog Tryz.f5.params.toList (Tryz.f5.params.toList ++ Rows.groupWritesSpec.plain.varTypes Tryz.prog ++ Tryz.f5.resultTypes.toList)) = true := by kernel_rfl
theorem groupWrites_joined : joinedFacts Tryz.prog 5 Tryz.f5 Rows.groupWritesSpec Rows.groupWritesRow = true := groupWrites_tt (groupWrites_tt (groupWrites_tt (groupWrites_tt (groupWrites_tt (groupWrites_tt (groupWrites_tt (groupWrites_tt (groupWrites_tt (groupWrites_tt (groupWrites_tt (groupWrites_tt (groupWrites_tt (groupWrites_tt (groupWrites_tt (groupWrites_tt (groupWrites_tt (groupWrites_tt (groupWrites_tt (groupWrites_tt (groupWrites_tt (groupWrites_tt (groupWrites_tt (groupWrites_tt (groupWrites_tt (groupWrites_tt (groupWrites_tt (groupWrites_tt (groupWrites_tt (groupWrites_tt (groupWrites_tt (groupWrites_j0) groupWrites_j1) groupWrites_j2) groupWrites_j3) groupWrites_j4) groupWrites_j5) groupWrites_j6) groupWrites_j7) groupWrites_j8) groupWrites_j9) groupWrites_j10) groupWrites_j11) groupWrites_j12) groupWrites_j13) groupWrites_j14) groupWrites_j15) groupWrites_j16) groupWrites_j17) groupWrites_j18) groupWrites_j19) groupWrites_j20) groupWrites_j21) groupWrites_j22) groupWrites_j23) groupWrites_j24) groupWrites_j25) groupWrites_j26) groupWrites_j27) groupWrites_j28) groupWrites_j29) groupWrites_j30) groupWrites_j31
end Go.Proofs.YtpbjjhpihhnomaaGreatDoor
