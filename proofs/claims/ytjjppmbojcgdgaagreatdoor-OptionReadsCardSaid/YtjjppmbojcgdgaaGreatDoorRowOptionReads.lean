/- The row of OptionReads. -/
import Derived.Test.YtjjppmbojcgdgaaGreatDoorRows
import Derived.Test.YtjjppmbojcgdgaaGreatDoorJfOptionReads
import Derived.Test.YtjjppmbojcgdgaaGreatDoorTopP
import Derived.Test.YtjjppmbojcgdgaaGreatDoorOrd
import Derived.Test.YtjjppmbojcgdgaaGreatDoorJ15
import Derived.Test.YtjjppmbojcgdgaaGreatDoorAbsC
import Derived.Lib.LaidU8
import Derived.Lib.LaidIn
import Derived.Shelf.Vars
import Derived.ProofKit
import Derived.ChangeOld
import Derived.Carry
import Derived.Lay
set_option linter.unusedVariables false
set_option linter.unusedSimpArgs false
set_option maxRecDepth 100000
set_option maxHeartbeats 4000000
namespace Go.Proofs.YtjjppmbojcgdgaaGreatDoor
open Go Go.Abs Go.Shelf Go.Opn
open Go.ChangeShapes Go.WideShapes Go.ChangeAt Go.RowKit

theorem optionReads_own : ownKnob Tryz.prog.godebug = none := by kernel_rfl
theorem optionReads_lout : laidOutB Tryz.prog = true := by kernel_rfl
noncomputable def optionReads_world (os : Os) : World := World.laidAll Tryz.prog os Rows.optionReadsRow.laid
theorem optionReads_laid (os : Os) (args : Array Value) : laidMet Tryz.prog Rows.optionReadsRow.laid ((optionReads_world os).forCall (fun _ _ => 0) ⟨#[], args, []⟩).memory :=
  laidMet_laidAll args (by kernel_rfl) (by kernel_rfl)
set_option maxRecDepth 100000 in
theorem optionReads_lifted (os : Os) (started : os.Started) (H : Type) (enc : TypeId × Value → H) :
    ReturnsInHanded {} Tryz.checked os 9 .any (fun w args => (Rows.optionReadsSpec.pre enc Tryz.prog Tryz.f9 Rows.optionReadsRow.domain false w args ∧ laidMetH Tryz.prog Rows.optionReadsRow.laid w) ∧ sizedMet enc Tryz.prog Tryz.f9 (OpenSpec.ofChange Rows.optionReadsSpec) false w args)
      (Rows.optionReadsSpec.post enc Tryz.prog Tryz.f9 false true false false) := by
  refine returns_both (C := Tryz.checked) (X := fun w _ => laidMetH Tryz.prog Rows.optionReadsRow.laid w) (fun _ _ _ hh h => h.of_heap hh) optionReads_own started (by kernel_rfl) Tryz.func9
    (ChangeSpec.witness_at (enc := enc) (C := Tryz.checked) (os := os) (X := fun w _ => laidMetH Tryz.prog Rows.optionReadsRow.laid w) false (optionReads_world os) #[.string ⟨⟨[]⟩⟩] 8 (World.laidAll_os _ _ _) (by kernel_rfl) (by kernel_rfl) (by kernel_rfl) (by kernel_rfl) (by kernel_rfl) (optionReads_laid os _)) ?_
  intro W base args ds gs before hval0 hW _ hsz0 hL hsh _
  have hsz : (DataW.weightsEach Tryz.prog (Tryz.f9.params.toList ++ Rows.optionReadsSpec.plain.varTypes Tryz.prog) (ds ++ gs)).all (· ≤ reachBytes) = true := hsz0
  have hval : ∀ (j : Nat) t v, Tryz.f9.params[j]? = some t → args[j]? = some v → Value.okWide Tryz.prog W .any base t v := hval0
  have hW1 := hW
  obtain ⟨p, q, hA0, hV, rfl, hfz, hnd⟩ := hW
  have hA : DataW.TrodAll enc Tryz.prog W 0 (fun _ => true) true Tryz.f9.params.toList args.toList ds p := hA0
  rw [Tryz.params9] at hA hval hsz
  obtain ⟨v0, vs0, d0, e0, p0, q0, hargs, rfl, rfl, h0, r0⟩ := trodAll_cons hA
  obtain ⟨rfl, rfl, rfl⟩ := trodAll_nil r0
  obtain rfl : args = #[v0] := by cases args; simp_all
  obtain ⟨rfl, rfl⟩ := trodVars_none hV
  have l0 : ∀ x ∈ p0, x.block < W.heap.size := fun x hx => by simpa using hW1.lt x (by simp [hx])
  have z0 : Sized Tryz.prog 9 d0 := Sized.of_each hsz (i := 0) rfl rfl
  obtain ⟨x0, w0, k0⟩ := oStr.one (g := _) (str_cells Tryz.underlying9 (hval 0 9 v0 rfl rfl)) h0 z0
  clear hA0 hval0 hsz0 hsz
  have hL1 : laidMet Tryz.prog Rows.optionReadsRow.laid W := hL
  have hU : Lib.Utf8Tabs 0 1 W :=
    utf8Tabs_of_reads (ρ := Tryz.lays197_ren) { Tryz.lays197 with } ⟨by kernel_rfl, by kernel_rfl, by kernel_rfl, by kernel_rfl, by kernel_rfl, by kernel_rfl, by kernel_rfl⟩
      (Lib.laidMet.reads hL1 (.tail _ (.tail _ (.tail _ (.tail _ (.tail _ (.tail _ (.head _)))))))) (Lib.laidMet.reads hL1 (.tail _ (.tail _ (.tail _ (.head _)))))
  obtain ⟨m, hm⟩ : ∃ m, W.cell? ⟨2, 0, none⟩ = some (.int .i64 m) := cell_of_shapedOpen_int (P := Tryz.prog) (t := 3) (zero := #[.int .i64 0]) hsh (of_decide_eq_true (by kernel_rfl)) (by kernel_rfl) rfl (by kernel_rfl) (by kernel_rfl) Tryz.underlying3
  refine (Does.law (OptionReads_ok m x0 w0) Tryz.func9 rfl rfl (top_GP hU hm (Lib.laidMet.reads hL1 (.tail _ (.tail _ (.head _))))) (cargs := #[v0]) (by simp only [RepL]; exact ⟨_, _, rfl, k0, rfl⟩)).mono fun e W2 ⟨he, bel⟩ => ?_
  subst he
  exact ⟨_, rfl, _, _, _, [], _, [], hW1, trodAll_mk1 (shut_bool Tryz.underlying4 _), ⟨_, _, (Below.trod optionReads_lout (by kernel_rfl) (of_decide_eq_true (by kernel_rfl)) h0 bel l0), trodAll_mk0, rfl⟩, rfl, bel.frame _, fun h => by cases h⟩

theorem optionReads_holds : Rows.OptionReadsSaid :=
  OpenClaim.holds_of_wide 9 Tryz.f9 rfl rfl rfl rfl rfl rfl rfl ⟨rfl, rfl, rfl, rfl, rfl⟩ rfl rfl rfl rfl rfl (by kernel_rfl) Tryz.func9 optionReads_joined
    (of_decide_eq_true (by kernel_rfl)) (by unfold Func.isWrapper; rw [if_neg (of_decide_eq_false (by kernel_rfl))]; exact ⟨rfl, rfl⟩)
    (fun os started H enc _ => optionReads_lifted os started H enc)
end Go.Proofs.YtjjppmbojcgdgaaGreatDoor
