/- What the program forces of the row of GroupSpans. -/
import Derived.Test.YtpbjjhpihhnomaaGreatDoorRows
import Derived.Test.YtpbjjhpihhnomaaGreatDoorProg
import Derived.JoinedOf
import Derived.KernelRfl
set_option linter.unusedVariables false
set_option linter.unusedSimpArgs false
set_option maxRecDepth 100000
set_option maxHeartbeats 4000000

namespace Go.Proofs.YtpbjjhpihhnomaaGreatDoor
open Go
theorem groupSpans_tt {a b : Bool} (h : a = true) (k : b = true) : (a && b) = true := by rw [h, k]; rfl
theorem groupSpans_j0 : (Rows.groupSpansRow.wf (OpenSpec.ofChange Rows.groupSpansSpec)) = true := by kernel_rfl
theorem groupSpans_j1 : (laidOutB Tryz.prog) = true := by kernel_rfl
theorem groupSpans_j2 : (mapsRowed Tryz.prog) = true := by kernel_rfl
theorem groupSpans_j3 : (Tryz.f6.params.all (Tryz.prog.readableRec ·)) = true := by kernel_rfl
theorem groupSpans_j4 : (namedTie Tryz.prog Rows.groupSpansRow.named Rows.groupSpansSpec.vars) = true := by kernel_rfl
theorem groupSpans_j5 : ((Rows.groupSpansRow.stops == [])) = true := by kernel_rfl
theorem groupSpans_j6 : ((Tryz.prog.stops == [])) = true := by kernel_rfl
theorem groupSpans_j7 : ((Rows.groupSpansRow.knobs == [])) = true := by kernel_rfl
theorem groupSpans_j8 : ((Tryz.prog.stopKnobs == [])) = true := by kernel_rfl
theorem groupSpans_j9 : ((Rows.groupSpansRow.inPlace == Tryz.prog.inPlace 6)) = true := by kernel_rfl
theorem groupSpans_j10 : ((Rows.groupSpansRow.unfollowed == Tryz.prog.unfollowed 6)) = true := by kernel_rfl
theorem groupSpans_j11 : ((Rows.groupSpansRow.recurses == Tryz.prog.recurses 6)) = true := by kernel_rfl
theorem groupSpans_j12 : ((Rows.groupSpansRow.named == Tryz.prog.varsNamed 6)) = true := by kernel_rfl
theorem groupSpans_j13 : ((Rows.groupSpansRow.maps == (Tryz.f6.params.toList ++ Rows.groupSpansSpec.plain.varTypes Tryz.prog).any (Tryz.prog.mapsRec ·))) = true := by kernel_rfl
theorem groupSpans_j14 : ((Rows.groupSpansRow.ifaces == (Tryz.f6.params.toList ++ Rows.groupSpansSpec.plain.varTypes Tryz.prog).any (Tryz.prog.ifacesRec ·))) = true := by kernel_rfl
theorem groupSpans_j15 : ((Rows.groupSpansRow.mapsOut == Tryz.prog.mapsAmong Tryz.f6.resultTypes.toList)) = true := by kernel_rfl
theorem groupSpans_j16 : ((Rows.groupSpansRow.loops == (Tryz.f6.params.toList ++ Rows.groupSpansSpec.plain.varTypes Tryz.prog).any (Tryz.prog.loopsFrom ·))) = true := by kernel_rfl
theorem groupSpans_j17 : ((Rows.groupSpansRow.wideKeys == (Tryz.f6.params.toList ++ Rows.groupSpansSpec.plain.varTypes Tryz.prog ++ Tryz.f6.resultTypes.toList).any (Tryz.prog.wideKeysFrom ·))) = true := by kernel_rfl
theorem groupSpans_j18 : (Rows.groupSpansSpec.vars.all (Tryz.prog.varReadable ·)) = true := by kernel_rfl
theorem groupSpans_j19 : (Tryz.f6.resultTypes.all (fun t => Tryz.prog.readableRec t && decide (t < Tryz.prog.types.size))) = true := by kernel_rfl
theorem groupSpans_j20 : ((Rows.groupSpansRow.ifacesOut == Tryz.f6.resultTypes.toList.any (Tryz.prog.ifacesRec ·))) = true := by kernel_rfl
theorem groupSpans_j21 : ((Rows.groupSpansRow.loopsOut == Tryz.f6.resultTypes.toList.any (Tryz.prog.loopsFrom ·))) = true := by kernel_rfl
theorem groupSpans_j22 : ((Rows.groupSpansRow.plainKeys == Tryz.prog.plainKeys)) = true := by kernel_rfl
theorem groupSpans_j23 : (Rows.groupSpansRow.shortTexts.isNone) = true := by kernel_rfl
theorem groupSpans_j24 : (Tryz.prog.stopsHeard) = true := by kernel_rfl
theorem groupSpans_j25 : (Tryz.prog.mayEnter) = true := by kernel_rfl
theorem groupSpans_j26 : ((Rows.groupSpansRow.lifted == Tryz.prog.liftsFinal)) = true := by kernel_rfl
theorem groupSpans_j27 : ((Tryz.prog.make == some Rows.groupSpansRow.make)) = true := by kernel_rfl
theorem groupSpans_j28 : ((Rows.groupSpansRow.kinds == (if Rows.groupSpansRow.domain.isEmpty then [] else Tryz.f6.params.toList.map fun t => match Tryz.prog.underlying t with | some (.int k) => some k | _ => none))) = true := by kernel_rfl
theorem groupSpans_j29 : ((Rows.groupSpansRow.pinned == Rows.groupSpansRow.pinnedBy)) = true := by kernel_rfl
theorem groupSpans_j30 : ((Rows.groupSpansRow.veiled == (Tryz.f6.params.toList ++ Rows.groupSpansSpec.plain.varTypes Tryz.prog ++ Tryz.f6.resultTypes.toList).any (Tryz.prog.veiledRec ·))) = true := by kernel_rfl
theorem groupSpans_j31 : (Rows.groupSpansRow.veiledFits Tryz.prog Tryz.f6.params.toList (Tryz.f6.params.toList ++ Rows.groupSpansSpec.plain.varTypes Tryz.prog ++ Tryz.f6.resultTypes.toList)) = true := by kernel_rfl
theorem groupSpans_joined : joinedFacts Tryz.prog 6 Tryz.f6 Rows.groupSpansSpec Rows.groupSpansRow = true := groupSpans_tt (groupSpans_tt (groupSpans_tt (groupSpans_tt (groupSpans_tt (groupSpans_tt (groupSpans_tt (groupSpans_tt (groupSpans_tt (groupSpans_tt (groupSpans_tt (groupSpans_tt (groupSpans_tt (groupSpans_tt (groupSpans_tt (groupSpans_tt (groupSpans_tt (groupSpans_tt (groupSpans_tt (groupSpans_tt (groupSpans_tt (groupSpans_tt (groupSpans_tt (groupSpans_tt (groupSpans_tt (groupSpans_tt (groupSpans_tt (groupSpans_tt (groupSpans_tt (groupSpans_tt (groupSpans_tt (groupSpans_j0) groupSpans_j1) groupSpans_j2) groupSpans_j3) groupSpans_j4) groupSpans_j5) groupSpans_j6) groupSpans_j7) groupSpans_j8) groupSpans_j9) groupSpans_j10) groupSpans_j11) groupSpans_j12) groupSpans_j13) groupSpans_j14) groupSpans_j15) groupSpans_j16) groupSpans_j17) groupSpans_j18) groupSpans_j19) groupSpans_j20) groupSpans_j21) groupSpans_j22) groupSpans_j23) groupSpans_j24) groupSpans_j25) groupSpans_j26) groupSpans_j27) groupSpans_j28) groupSpans_j29) groupSpans_j30) groupSpans_j31
end Go.Proofs.YtpbjjhpihhnomaaGreatDoor
