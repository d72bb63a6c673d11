/- What the program forces of the row of GroupMins. -/
import Derived.Test.YtpbjjhpihhnomaaGreatDoorRows
import Derived.Test.YtpbjjhpihhnomaaGreatDoorProg
import Derived.JoinedOf
import Derived.KernelRfl
set_option linter.unusedVariables false
set_option linter.unusedSimpArgs false
set_option maxRecDepth 100000
set_option maxHeartbeats 4000000

namespace Go.Proofs.YtpbjjhpihhnomaaGreatDoor
open Go
theorem groupMins_tt {a b : Bool} (h : a = true) (k : b = true) : (a && b) = true := by rw [h, k]; rfl
theorem groupMins_j0 : (Rows.groupMinsRow.wf (OpenSpec.ofChange Rows.groupMinsSpec)) = true := by kernel_rfl
theorem groupMins_j1 : (laidOutB Tryz.prog) = true := by kernel_rfl
theorem groupMins_j2 : (mapsRowed Tryz.prog) = true := by kernel_rfl
theorem groupMins_j3 : (Tryz.f3.params.all (Tryz.prog.readableRec ·)) = true := by kernel_rfl
theorem groupMins_j4 : (namedTie Tryz.prog Rows.groupMinsRow.named Rows.groupMinsSpec.vars) = true := by kernel_rfl
theorem groupMins_j5 : ((Rows.groupMinsRow.stops == [])) = true := by kernel_rfl
theorem groupMins_j6 : ((Tryz.prog.stops == [])) = true := by kernel_rfl
theorem groupMins_j7 : ((Rows.groupMinsRow.knobs == [])) = true := by kernel_rfl
theorem groupMins_j8 : ((Tryz.prog.stopKnobs == [])) = true := by kernel_rfl
theorem groupMins_j9 : ((Rows.groupMinsRow.inPlace == Tryz.prog.inPlace 3)) = true := by kernel_rfl
theorem groupMins_j10 : ((Rows.groupMinsRow.unfollowed == Tryz.prog.unfollowed 3)) = true := by kernel_rfl
theorem groupMins_j11 : ((Rows.groupMinsRow.recurses == Tryz.prog.recurses 3)) = true := by kernel_rfl
theorem groupMins_j12 : ((Rows.groupMinsRow.named == Tryz.prog.varsNamed 3)) = true := by kernel_rfl
theorem groupMins_j13 : ((Rows.groupMinsRow.maps == (Tryz.f3.params.toList ++ Rows.groupMinsSpec.plain.varTypes Tryz.prog).any (Tryz.prog.mapsRec ·))) = true := by kernel_rfl
theorem groupMins_j14 : ((Rows.groupMinsRow.ifaces == (Tryz.f3.params.toList ++ Rows.groupMinsSpec.plain.varTypes Tryz.prog).any (Tryz.prog.ifacesRec ·))) = true := by kernel_rfl
theorem groupMins_j15 : ((Rows.groupMinsRow.mapsOut == Tryz.prog.mapsAmong Tryz.f3.resultTypes.toList)) = true := by kernel_rfl
theorem groupMins_j16 : ((Rows.groupMinsRow.loops == (Tryz.f3.params.toList ++ Rows.groupMinsSpec.plain.varTypes Tryz.prog).any (Tryz.prog.loopsFrom ·))) = true := by kernel_rfl
theorem groupMins_j17 : ((Rows.groupMinsRow.wideKeys == (Tryz.f3.params.toList ++ Rows.groupMinsSpec.plain.varTypes Tryz.prog ++ Tryz.f3.resultTypes.toList).any (Tryz.prog.wideKeysFrom ·))) = true := by kernel_rfl
theorem groupMins_j18 : (Rows.groupMinsSpec.vars.all (Tryz.prog.varReadable ·)) = true := by kernel_rfl
theorem groupMins_j19 : (Tryz.f3.resultTypes.all (fun t => Tryz.prog.readableRec t && decide (t < Tryz.prog.types.size))) = true := by kernel_rfl
theorem groupMins_j20 : ((Rows.groupMinsRow.ifacesOut == Tryz.f3.resultTypes.toList.any (Tryz.prog.ifacesRec ·))) = true := by kernel_rfl
theorem groupMins_j21 : ((Rows.groupMinsRow.loopsOut == Tryz.f3.resultTypes.toList.any (Tryz.prog.loopsFrom ·))) = true := by kernel_rfl
theorem groupMins_j22 : ((Rows.groupMinsRow.plainKeys == Tryz.prog.plainKeys)) = true := by kernel_rfl
theorem groupMins_j23 : (Rows.groupMinsRow.shortTexts.isNone) = true := by kernel_rfl
theorem groupMins_j24 : (Tryz.prog.stopsHeard) = true := by kernel_rfl
theorem groupMins_j25 : (Tryz.prog.mayEnter) = true := by kernel_rfl
theorem groupMins_j26 : ((Rows.groupMinsRow.lifted == Tryz.prog.liftsFinal)) = true := by kernel_rfl
theorem groupMins_j27 : ((Tryz.prog.make == some Rows.groupMinsRow.make)) = true := by kernel_rfl
theorem groupMins_j28 : ((Rows.groupMinsRow.kinds == (if Rows.groupMinsRow.domain.isEmpty then [] else Tryz.f3.params.toList.map fun t => match Tryz.prog.underlying t with | some (.int k) => some k | _ => none))) = true := by kernel_rfl
theorem groupMins_j29 : ((Rows.groupMinsRow.pinned == Rows.groupMinsRow.pinnedBy)) = true := by kernel_rfl
theorem groupMins_j30 : ((Rows.groupMinsRow.veiled == (Tryz.f3.params.toList ++ Rows.groupMinsSpec.plain.varTypes Tryz.prog ++ Tryz.f3.resultTypes.toList).any (Tryz.prog.veiledRec ·))) = true := by kernel_rfl
theorem groupMins_j31 : (Rows.groupMinsRow.veiledFits Tryz.prog Tryz.f3.params.toList (Tryz.f3.params.toList ++ Rows.groupMinsSpec.plain.varTypes Tryz.prog ++ Tryz.f3.resultTypes.toList)) = true := by kernel_rfl
theorem groupMins_joined : joinedFacts Tryz.prog 3 Tryz.f3 Rows.groupMinsSpec Rows.groupMinsRow = true := groupMins_tt (groupMins_tt (groupMins_tt (groupMins_tt (groupMins_tt (groupMins_tt (groupMins_tt (groupMins_tt (groupMins_tt (groupMins_tt (groupMins_tt (groupMins_tt (groupMins_tt (groupMins_tt (groupMins_tt (groupMins_tt (groupMins_tt (groupMins_tt (groupMins_tt (groupMins_tt (groupMins_tt (groupMins_tt (groupMins_tt (groupMins_tt (groupMins_tt (groupMins_tt (groupMins_tt (groupMins_tt (groupMins_tt (groupMins_tt (groupMins_tt (groupMins_j0) groupMins_j1) groupMins_j2) groupMins_j3) groupMins_j4) groupMins_j5) groupMins_j6) groupMins_j7) groupMins_j8) groupMins_j9) groupMins_j10) groupMins_j11) groupMins_j12) groupMins_j13) groupMins_j14) groupMins_j15) groupMins_j16) groupMins_j17) groupMins_j18) groupMins_j19) groupMins_j20) groupMins_j21) groupMins_j22) groupMins_j23) groupMins_j24) groupMins_j25) groupMins_j26) groupMins_j27) groupMins_j28) groupMins_j29) groupMins_j30) groupMins_j31
end Go.Proofs.YtpbjjhpihhnomaaGreatDoor
