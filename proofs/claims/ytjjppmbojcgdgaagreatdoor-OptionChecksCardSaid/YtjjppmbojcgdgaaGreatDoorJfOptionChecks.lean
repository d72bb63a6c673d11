/- What the program forces of the row of OptionChecks. -/
import Derived.Test.YtjjppmbojcgdgaaGreatDoorRows
import Derived.Test.YtjjppmbojcgdgaaGreatDoorProg
import Derived.JoinedOf
import Derived.KernelRfl
set_option linter.unusedVariables false
set_option linter.unusedSimpArgs false
set_option maxRecDepth 100000
set_option maxHeartbeats 4000000
namespace Go.Proofs.YtjjppmbojcgdgaaGreatDoor
open Go
theorem oc_tt {a b : Bool} (h : a = true) (k : b = true) : (a && b) = true := by rw [h, k]; rfl
theorem oc_j0 : (Rows.optionChecksRow.wf (OpenSpec.ofChange Rows.optionChecksSpec)) = true := by kernel_rfl
theorem oc_j1 : (laidOutB Tryz.prog) = true := by kernel_rfl
theorem oc_j2 : (mapsRowed Tryz.prog) = true := by kernel_rfl
theorem oc_j3 : (Tryz.f7.params.all (Tryz.prog.readableRec ·)) = true := by kernel_rfl
theorem oc_j4 : (namedTie Tryz.prog Rows.optionChecksRow.named Rows.optionChecksSpec.vars) = true := by kernel_rfl
theorem oc_j5 : ((Rows.optionChecksRow.stops == [])) = true := by kernel_rfl
theorem oc_j6 : ((Tryz.prog.stops == [])) = true := by kernel_rfl
theorem oc_j7 : ((Rows.optionChecksRow.knobs == [])) = true := by kernel_rfl
theorem oc_j8 : ((Tryz.prog.stopKnobs == [])) = true := by kernel_rfl
theorem oc_j9 : ((Rows.optionChecksRow.inPlace == Tryz.prog.inPlace 7)) = true := by kernel_rfl
theorem oc_j10 : ((Rows.optionChecksRow.unfollowed == Tryz.prog.unfollowed 7)) = true := by kernel_rfl
theorem oc_j11 : ((Rows.optionChecksRow.recurses == Tryz.prog.recurses 7)) = true := by kernel_rfl
theorem oc_j12 : ((Rows.optionChecksRow.named == Tryz.prog.varsNamed 7)) = true := by kernel_rfl
theorem oc_j13 : ((Rows.optionChecksRow.maps == (Tryz.f7.params.toList ++ Rows.optionChecksSpec.plain.varTypes Tryz.prog).any (Tryz.prog.mapsRec ·))) = true := by kernel_rfl
theorem oc_j14 : ((Rows.optionChecksRow.ifaces == (Tryz.f7.params.toList ++ Rows.optionChecksSpec.plain.varTypes Tryz.prog).any (Tryz.prog.ifacesRec ·))) = true := by kernel_rfl
theorem oc_j15 : ((Rows.optionChecksRow.mapsOut == Tryz.prog.mapsAmong Tryz.f7.resultTypes.toList)) = true := by kernel_rfl
theorem oc_j16 : ((Rows.optionChecksRow.loops == (Tryz.f7.params.toList ++ Rows.optionChecksSpec.plain.varTypes Tryz.prog).any (Tryz.prog.loopsFrom ·))) = true := by kernel_rfl
theorem oc_j17 : ((Rows.optionChecksRow.wideKeys == (Tryz.f7.params.toList ++ Rows.optionChecksSpec.plain.varTypes Tryz.prog ++ Tryz.f7.resultTypes.toList).any (Tryz.prog.wideKeysFrom ·))) = true := by kernel_rfl
theorem oc_j18 : (Rows.optionChecksSpec.vars.all (Tryz.prog.varReadable ·)) = true := by kernel_rfl
theorem oc_j19 : (Tryz.f7.resultTypes.all (fun t => Tryz.prog.readableRec t && decide (t < Tryz.prog.types.size))) = true := by kernel_rfl
theorem oc_j20 : ((Rows.optionChecksRow.ifacesOut == Tryz.f7.resultTypes.toList.any (Tryz.prog.ifacesRec ·))) = true := by kernel_rfl
theorem oc_j21 : ((Rows.optionChecksRow.loopsOut == Tryz.f7.resultTypes.toList.any (Tryz.prog.loopsFrom ·))) = true := by kernel_rfl
theorem oc_j22 : ((Rows.optionChecksRow.plainKeys == Tryz.prog.plainKeys)) = true := by kernel_rfl
theorem oc_j23 : (Rows.optionChecksRow.shortTexts.isNone) = true := by kernel_rfl
theorem oc_j24 : (Tryz.prog.stopsHeard) = true := by kernel_rfl
theorem oc_j25 : (Tryz.prog.mayEnter) = true := by kernel_rfl
theorem oc_j26 : ((Rows.optionChecksRow.lifted == Tryz.prog.liftsFinal)) = true := by kernel_rfl
theorem oc_j27 : ((Tryz.prog.make == some Rows.optionChecksRow.make)) = true := by kernel_rfl
theorem oc_j28 : ((Rows.optionChecksRow.kinds == (if Rows.optionChecksRow.domain.isEmpty then [] else Tryz.f7.params.toList.map fun t => match Tryz.prog.underlying t with | some (.int k) => some k | _ => none))) = true := by kernel_rfl
theorem oc_j29 : ((Rows.optionChecksRow.pinned == Rows.optionChecksRow.pinnedBy)) = true := by kernel_rfl
theorem oc_j30 : ((Rows.optionChecksRow.veiled == (Tryz.f7.params.toList ++ Rows.optionChecksSpec.plain.varTypes Tryz.prog ++ Tryz.f7.resultTypes.toList).any (Tryz.prog.veiledRec ·))) = true := by kernel_rfl
theorem oc_j31 : (Rows.optionChecksRow.veiledFits Tryz.prog Tryz.f7.params.toList (Tryz.f7.params.toList ++ Rows.optionChecksSpec.plain.varTypes Tryz.prog ++ Tryz.f7.resultTypes.toList)) = true := by kernel_rfl
theorem oc_joined : joinedFacts Tryz.prog 7 Tryz.f7 Rows.optionChecksSpec Rows.optionChecksRow = true := oc_tt (oc_tt (oc_tt (oc_tt (oc_tt (oc_tt (oc_tt (oc_tt (oc_tt (oc_tt (oc_tt (oc_tt (oc_tt (oc_tt (oc_tt (oc_tt (oc_tt (oc_tt (oc_tt (oc_tt (oc_tt (oc_tt (oc_tt (oc_tt (oc_tt (oc_tt (oc_tt (oc_tt (oc_tt (oc_tt (oc_tt (oc_j0) oc_j1) oc_j2) oc_j3) oc_j4) oc_j5) oc_j6) oc_j7) oc_j8) oc_j9) oc_j10) oc_j11) oc_j12) oc_j13) oc_j14) oc_j15) oc_j16) oc_j17) oc_j18) oc_j19) oc_j20) oc_j21) oc_j22) oc_j23) oc_j24) oc_j25) oc_j26) oc_j27) oc_j28) oc_j29) oc_j30) oc_j31
end Go.Proofs.YtjjppmbojcgdgaaGreatDoor
