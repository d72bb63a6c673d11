/- What the program forces of the row of OptionReads. -/
import Derived.Test.YtjjppmbojcgdgaaGreatDoorRows
import Derived.Test.YtjjppmbojcgdgaaGreatDoorProg
import Derived.JoinedOf
import Derived.KernelRfl
set_option linter.unusedVariables false
set_option linter.unusedSimpArgs false
set_option maxRecDepth 100000
set_option maxHeartbeats 4000000
namespace Go.Proofs.YtjjppmbojcgdgaaGreatDoor
open Go
theorem optionReads_tt {a b : Bool} (h : a = true) (k : b = true) : (a && b) = true := by rw [h, k]; rfl
theorem optionReads_j0 : (Rows.optionReadsRow.wf (OpenSpec.ofChange Rows.optionReadsSpec)) = true := by kernel_rfl
theorem optionReads_j1 : (laidOutB Tryz.prog) = true := by kernel_rfl
theorem optionReads_j2 : (mapsRowed Tryz.prog) = true := by kernel_rfl
theorem optionReads_j3 : (Tryz.f9.params.all (Tryz.prog.readableRec ·)) = true := by kernel_rfl
theorem optionReads_j4 : (namedTie Tryz.prog Rows.optionReadsRow.named Rows.optionReadsSpec.vars) = true := by kernel_rfl
theorem optionReads_j5 : ((Rows.optionReadsRow.stops == [])) = true := by kernel_rfl
theorem optionReads_j6 : ((Tryz.prog.stops == [])) = true := by kernel_rfl
theorem optionReads_j7 : ((Rows.optionReadsRow.knobs == [])) = true := by kernel_rfl
theorem optionReads_j8 : ((Tryz.prog.stopKnobs == [])) = true := by kernel_rfl
theorem optionReads_j9 : ((Rows.optionReadsRow.inPlace == Tryz.prog.inPlace 9)) = true := by kernel_rfl
theorem optionReads_j10 : ((Rows.optionReadsRow.unfollowed == Tryz.prog.unfollowed 9)) = true := by kernel_rfl
theorem optionReads_j11 : ((Rows.optionReadsRow.recurses == Tryz.prog.recurses 9)) = true := by kernel_rfl
theorem optionReads_j12 : ((Rows.optionReadsRow.named == Tryz.prog.varsNamed 9)) = true := by kernel_rfl
theorem optionReads_j13 : ((Rows.optionReadsRow.maps == (Tryz.f9.params.toList ++ Rows.optionReadsSpec.plain.varTypes Tryz.prog).any (Tryz.prog.mapsRec ·))) = true := by kernel_rfl
theorem optionReads_j14 : ((Rows.optionReadsRow.ifaces == (Tryz.f9.params.toList ++ Rows.optionReadsSpec.plain.varTypes Tryz.prog).any (Tryz.prog.ifacesRec ·))) = true := by kernel_rfl
theorem optionReads_j15 : ((Rows.optionReadsRow.mapsOut == Tryz.prog.mapsAmong Tryz.f9.resultTypes.toList)) = true := by kernel_rfl
theorem optionReads_j16 : ((Rows.optionReadsRow.loops == (Tryz.f9.params.toList ++ Rows.optionReadsSpec.plain.varTypes Tryz.prog).any (Tryz.prog.loopsFrom ·))) = true := by kernel_rfl
theorem optionReads_j17 : ((Rows.optionReadsRow.wideKeys == (Tryz.f9.params.toList ++ Rows.optionReadsSpec.plain.varTypes Tryz.prog ++ Tryz.f9.resultTypes.toList).any (Tryz.prog.wideKeysFrom ·))) = true := by kernel_rfl
theorem optionReads_j18 : (Rows.optionReadsSpec.vars.all (Tryz.prog.varReadable ·)) = true := by kernel_rfl
theorem optionReads_j19 : (Tryz.f9.resultTypes.all (fun t => Tryz.prog.readableRec t && decide (t < Tryz.prog.types.size))) = true := by kernel_rfl
theorem optionReads_j20 : ((Rows.optionReadsRow.ifacesOut == Tryz.f9.resultTypes.toList.any (Tryz.prog.ifacesRec ·))) = true := by kernel_rfl
theorem optionReads_j21 : ((Rows.optionReadsRow.loopsOut == Tryz.f9.resultTypes.toList.any (Tryz.prog.loopsFrom ·))) = true := by kernel_rfl
theorem optionReads_j22 : ((Rows.optionReadsRow.plainKeys == Tryz.prog.plainKeys)) = true := by kernel_rfl
theorem optionReads_j23 : (Rows.optionReadsRow.shortTexts.isNone) = true := by kernel_rfl
theorem optionReads_j24 : (Tryz.prog.stopsHeard) = true := by kernel_rfl
theorem optionReads_j25 : (Tryz.prog.mayEnter) = true := by kernel_rfl
theorem optionReads_j26 : ((Rows.optionReadsRow.lifted == Tryz.prog.liftsFinal)) = true := by kernel_rfl
theorem optionReads_j27 : ((Tryz.prog.make == some Rows.optionReadsRow.make)) = true := by kernel_rfl
theorem optionReads_j28 : ((Rows.optionReadsRow.kinds == (if Rows.optionReadsRow.domain.isEmpty then [] else Tryz.f9.params.toList.map fun t => match Tryz.prog.underlying t with | some (.int k) => some k | _ => none))) = true := by kernel_rfl
theorem optionReads_j29 : ((Rows.optionReadsRow.pinned == Rows.optionReadsRow.pinnedBy)) = true := by kernel_rfl
theorem optionReads_j30 : ((Rows.optionReadsRow.veiled == (Tryz.f9.params.toList ++ Rows.optionReadsSpec.plain.varTypes Tryz.prog ++ Tryz.f9.resultTypes.toList).any (Tryz.prog.veiledRec ·))) = true := by kernel_rfl
theorem optionReads_j31 : (Rows.optionReadsRow.veiledFits Tryz.prog Tryz.f9.params.toList (Tryz.f9.params.toList ++ Rows.optionReadsSpec.plain.varTypes Tryz.prog ++ Tryz.f9.resultTypes.toList)) = true := by kernel_rfl
theorem optionReads_joined : joinedFacts Tryz.prog 9 Tryz.f9 Rows.optionReadsSpec Rows.optionReadsRow = true := optionReads_tt (optionReads_tt (optionReads_tt (optionReads_tt (optionReads_tt (optionReads_tt (optionReads_tt (optionReads_tt (optionReads_tt (optionReads_tt (optionReads_tt (optionReads_tt (optionReads_tt (optionReads_tt (optionReads_tt (optionReads_tt (optionReads_tt (optionReads_tt (optionReads_tt (optionReads_tt (optionReads_tt (optionReads_tt (optionReads_tt (optionReads_tt (optionReads_tt (optionReads_tt (optionReads_tt (optionReads_tt (optionReads_tt (optionReads_tt (optionReads_tt (optionReads_j0) optionReads_j1) optionReads_j2) optionReads_j3) optionReads_j4) optionReads_j5) optionReads_j6) optionReads_j7) optionReads_j8) optionReads_j9) optionReads_j10) optionReads_j11) optionReads_j12) optionReads_j13) optionReads_j14) optionReads_j15) optionReads_j16) optionReads_j17) optionReads_j18) optionReads_j19) optionReads_j20) optionReads_j21) optionReads_j22) optionReads_j23) optionReads_j24) optionReads_j25) optionReads_j26) optionReads_j27) optionReads_j28) optionReads_j29) optionReads_j30) optionReads_j31
end Go.Proofs.YtjjppmbojcgdgaaGreatDoor
