/- What the program forces of the row of GroupReads. -/
import Derived.Test.YtpbjjhpihhnomaaGreatDoorRows
import Derived.Test.YtpbjjhpihhnomaaGreatDoorProg
import Derived.JoinedOf
import Derived.KernelRfl
set_option linter.unusedVariables false
set_option linter.unusedSimpArgs false
set_option maxRecDepth 100000
set_option maxHeartbeats 4000000

namespace Go.Proofs.YtpbjjhpihhnomaaGreatDoor
open Go
theorem groupReads_tt {a b : Bool} (h : a = true) (k : b = true) : (a && b) = true := by rw [h, k]; rfl
theorem groupReads_j0 : (Rows.groupReadsRow.wf (OpenSpec.ofChange Rows.groupReadsSpec)) = true := by kernel_rfl
theorem groupReads_j1 : (laidOutB Tryz.prog) = true := by kernel_rfl
theorem groupReads_j2 : (mapsRowed Tryz.prog) = true := by kernel_rfl
theorem groupReads_j3 : (Tryz.f4.params.all (Tryz.prog.readableRec ·)) = true := by kernel_rfl
theorem groupReads_j4 : (namedTie Tryz.prog Rows.groupReadsRow.named Rows.groupReadsSpec.vars) = true := by kernel_rfl
theorem groupReads_j5 : ((Rows.groupReadsRow.stops == [])) = true := by kernel_rfl
theorem groupReads_j6 : ((Tryz.prog.stops == [])) = true := by kernel_rfl
theorem groupReads_j7 : ((Rows.groupReadsRow.knobs == [])) = true := by kernel_rfl
theorem groupReads_j8 : ((Tryz.prog.stopKnobs == [])) = true := by kernel_rfl
theorem groupReads_j9 : ((Rows.groupReadsRow.inPlace == Tryz.prog.inPlace 4)) = true := by kernel_rfl
theorem groupReads_j10 : ((Rows.groupReadsRow.unfollowed == Tryz.prog.unfollowed 4)) = true := by kernel_rfl
theorem groupReads_j11 : ((Rows.groupReadsRow.recurses == Tryz.prog.recurses 4)) = true := by kernel_rfl
theorem groupReads_j12 : ((Rows.groupReadsRow.named == Tryz.prog.varsNamed 4)) = true := by kernel_rfl
theorem groupReads_j13 : ((Rows.groupReadsRow.maps == (Tryz.f4.params.toList ++ Rows.groupReadsSpec.plain.varTypes Tryz.prog).any (Tryz.prog.mapsRec ·))) = true := by kernel_rfl
theorem groupReads_j14 : ((Rows.groupReadsRow.ifaces == (Tryz.f4.params.toList ++ Rows.groupReadsSpec.plain.varTypes Tryz.prog).any (Tryz.prog.ifacesRec ·))) = true := by kernel_rfl
theorem groupReads_j15 : ((Rows.groupReadsRow.mapsOut == Tryz.prog.mapsAmong Tryz.f4.resultTypes.toList)) = true := by kernel_rfl
theorem groupReads_j16 : ((Rows.groupReadsRow.loops == (Tryz.f4.params.toList ++ Rows.groupReadsSpec.plain.varTypes Tryz.prog).any (Tryz.prog.loopsFrom ·))) = true := by kernel_rfl
theorem groupReads_j17 : ((Rows.groupReadsRow.wideKeys == (Tryz.f4.params.toList ++ Rows.groupReadsSpec.plain.varTypes Tryz.prog ++ Tryz.f4.resultTypes.toList).any (Tryz.prog.wideKeysFrom ·))) = true := by kernel_rfl
theorem groupReads_j18 : (Rows.groupReadsSpec.vars.all (Tryz.prog.varReadable ·)) = true := by kernel_rfl
theorem groupReads_j19 : (Tryz.f4.resultTypes.all (fun t => Tryz.prog.readableRec t && decide (t < Tryz.prog.types.size))) = true := by kernel_rfl
theorem groupReads_j20 : ((Rows.groupReadsRow.ifacesOut == Tryz.f4.resultTypes.toList.any (Tryz.prog.ifacesRec ·))) = true := by kernel_rfl
theorem groupReads_j21 : ((Rows.groupReadsRow.loopsOut == Tryz.f4.resultTypes.toList.any (Tryz.prog.loopsFrom ·))) = true := by kernel_rfl
theorem groupReads_j22 : ((Rows.groupReadsRow.plainKeys == Tryz.prog.plainKeys)) = true := by kernel_rfl
theorem groupReads_j23 : (Rows.groupReadsRow.shortTexts.isNone) = true := by kernel_rfl
theorem groupReads_j24 : (Tryz.prog.stopsHeard) = true := by kernel_rfl
theorem groupReads_j25 : (Tryz.prog.mayEnter) = true := by kernel_rfl
theorem groupReads_j26 : ((Rows.groupReadsRow.lifted == Tryz.prog.liftsFinal)) = true := by kernel_rfl
theorem groupReads_j27 : ((Tryz.prog.make == some Rows.groupReadsRow.make)) = true := by kernel_rfl
theorem groupReads_j28 : ((Rows.groupReadsRow.kinds == (if Rows.groupReadsRow.domain.isEmpty then [] else Tryz.f4.params.toList.map fun t => match Tryz.prog.underlying t with | some (.int k) => some k | _ => none))) = true := by kernel_rfl
theorem groupReads_j29 : ((Rows.groupReadsRow.pinned == Rows.groupReadsRow.pinnedBy)) = true := by kernel_rfl
theorem groupReads_j30 : ((Rows.groupReadsRow.veiled == (Tryz.f4.params.toList ++ Rows.groupReadsSpec.plain.varTypes Tryz.prog ++ Tryz.f4.resultTypes.toList).any (Tryz.prog.veiledRec ·))) = true := by kernel_rfl
theorem groupReads_j31 : (Rows.groupReadsRow.veiledFits Tryz.prog Tryz.f4.params.toList (Tryz.f4.params.toList ++ Rows.groupReadsSpec.plain.varTypes Tryz.prog ++ Tryz.f4.resultTypes.toList)) = true := by kernel_rfl
theorem groupReads_joined : joinedFacts Tryz.prog 4 Tryz.f4 Rows.groupReadsSpec Rows.groupReadsRow = true := groupReads_tt (groupReads_tt (groupReads_tt (groupReads_tt (groupReads_tt (groupReads_tt (groupReads_tt (groupReads_tt (groupReads_tt (groupReads_tt (groupReads_tt (groupReads_tt (groupReads_tt (groupReads_tt (groupReads_tt (groupReads_tt (groupReads_tt (groupReads_tt (groupReads_tt (groupReads_tt (groupReads_tt (groupReads_tt (groupReads_tt (groupReads_tt (groupReads_tt (groupReads_tt (groupReads_tt (groupReads_tt (groupReads_tt (groupReads_tt (groupReads_tt (groupReads_j0) groupReads_j1) groupReads_j2) groupReads_j3) groupReads_j4) groupReads_j5) groupReads_j6) groupReads_j7) groupReads_j8) groupReads_j9) groupReads_j10) groupReads_j11) groupReads_j12) groupReads_j13) groupReads_j14) groupReads_j15) groupReads_j16) groupReads_j17) groupReads_j18) groupReads_j19) groupReads_j20) groupReads_j21) groupReads_j22) groupReads_j23) groupReads_j24) groupReads_j25) groupReads_j26) groupReads_j27) groupReads_j28) groupReads_j29) groupReads_j30) groupReads_j31
end Go.Proofs.YtpbjjhpihhnomaaGreatDoor
