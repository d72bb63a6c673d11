/- The row of OptionChecks. -/
import Derived.Test.YtjjppmbojcgdgaaGreatDoorRows
import Derived.Test.YtjjppmbojcgdgaaGreatDoorJfOptionChecks
import Derived.Test.YtjjppmbojcgdgaaGreatDoorOci
import Derived.Lib.LaidU8
import Derived.Lib.LaidIn
import Derived.Shelf.Vars
import Derived.ProofKit
import Derived.ChangeOld
import Derived.Carry
import Derived.Lay
set_option linter.unusedVariables false
set_option linter.unusedSimpArgs false
set_option maxRecDepth 100000
set_option maxHeartbeats 4000000
namespace Go.Proofs.YtjjppmbojcgdgaaGreatDoor
open Go Go.Abs Go.Shelf Go.Opn
open Go.ChangeShapes Go.WideShapes Go.ChangeAt Go.RowKit

theorem oc_own : ownKnob Tryz.prog.godebug = none := by kernel_rfl
theorem oc_lout : laidOutB Tryz.prog = true := by kernel_rfl
noncomputable def oc_world (os : Os) : World := World.laidAll Tryz.prog os Rows.optionChecksRow.laid
theorem oc_laid (os : Os) (args : Array Value) : laidMet Tryz.prog Rows.optionChecksRow.laid ((oc_world os).forCall (fun _ _ => 0) ⟨#[], args, []⟩).memory :=
  laidMet_laidAll args (by kernel_rfl) (by kernel_rfl)
set_option maxRecDepth 100000 in
theorem oc_lifted (os : Os) (started : os.Started) (H : Type) (enc : TypeId × Value → H) :
    ReturnsInHanded {} Tryz.checked os 7 .any (fun w args => (Rows.optionChecksSpec.pre enc Tryz.prog Tryz.f7 Rows.optionChecksRow.domain false w args ∧ laidMetH Tryz.prog Rows.optionChecksRow.laid w) ∧ sizedMet enc Tryz.prog Tryz.f7 (OpenSpec.ofChange Rows.optionChecksSpec) false w args)
      (Rows.optionChecksSpec.post enc Tryz.prog Tryz.f7 false true false false) := by
  refine returns_both (C := Tryz.checked) (X := fun w _ => laidMetH Tryz.prog Rows.optionChecksRow.laid w) (fun _ _ _ hh h => h.of_heap hh) oc_own started (by kernel_rfl) Tryz.func7
    (ChangeSpec.witness_at (enc := enc) (C := Tryz.checked) (os := os) (X := fun w _ => laidMetH Tryz.prog Rows.optionChecksRow.laid w) false (oc_world os) #[.int .i64 0, .agg #[.int .i64 0, .int .i64 0, .string ⟨⟨[]⟩⟩, .string ⟨⟨[]⟩⟩, .int .i64 0, .bool false, .int .i64 0, .bool false, .int .i64 0, .int .i64 0, .int .i64 0, .bool false, .string ⟨⟨[]⟩⟩, .int .i64 0, .int .i64 0, .int .i64 0, .bool false]] 8 (World.laidAll_os _ _ _) (by kernel_rfl) (by kernel_rfl) (by kernel_rfl) (by kernel_rfl) (by kernel_rfl) (oc_laid os _)) ?_
  intro W base args ds gs before hval0 hW _ hsz0 hL hsh _
  have hsz : (DataW.weightsEach Tryz.prog (Tryz.f7.params.toList ++ Rows.optionChecksSpec.plain.varTypes Tryz.prog) (ds ++ gs)).all (· ≤ reachBytes) = true := hsz0
  have hval : ∀ (j : Nat) t v, Tryz.f7.params[j]? = some t → args[j]? = some v → Value.okWide Tryz.prog W .any base t v := hval0
  have hW1 := hW
  obtain ⟨p, q, hA0, hV, rfl, hfz, hnd⟩ := hW
  have hA : DataW.TrodAll enc Tryz.prog W 0 (fun _ => true) true Tryz.f7.params.toList args.toList ds p := hA0
  rw [Tryz.params7] at hA hval hsz
  obtain ⟨v0, vs0, d0, e0, p0, q0, hargs, rfl, rfl, h0, r0⟩ := trodAll_cons hA
  obtain ⟨v1, vs1, d1, e1, p1, q1, rfl, rfl, rfl, h1, r1⟩ := trodAll_cons r0
  obtain ⟨rfl, rfl, rfl⟩ := trodAll_nil r1
  obtain rfl : args = #[v0, v1] := by cases args; simp_all
  obtain ⟨rfl, rfl⟩ := trodVars_none hV
  have l1 : ∀ x ∈ p1, x.block < W.heap.size := fun x hx => by simpa using hW1.lt x (by simp [hx])
  obtain ⟨x0, rfl, rfl, rfl, w0⟩ := open_int Tryz.underlying3 (hval 0 3 v0 rfl rfl) h0
  obtain ⟨us1, rfl, _⟩ := okWide_struct Tryz.underlying108 (hval 1 108 v1 rfl rfl)
  have z1 : Sized Tryz.prog 108 d1 := Sized.of_each hsz (i := 1) rfl rfl
  obtain ⟨x1, w1, k1⟩ := oOpts.agg h1 z1
  clear hA0 hval0 hsz0 hsz
  have hL1 : laidMet Tryz.prog Rows.optionChecksRow.laid W := hL
  have hU : Lib.Utf8Tabs 0 1 W :=
    utf8Tabs_of_reads (ρ := Tryz.lays197_ren) { Tryz.lays197 with } ⟨by kernel_rfl, by kernel_rfl, by kernel_rfl, by kernel_rfl, by kernel_rfl, by kernel_rfl, by kernel_rfl⟩
      (Lib.laidMet.reads hL1 (.tail _ (.tail _ (.tail _ (.tail _ (.tail _ (.tail _ (.head _)))))))) (Lib.laidMet.reads hL1 (.tail _ (.tail _ (.tail _ (.head _)))))
  obtain ⟨m, hm⟩ : ∃ m, W.cell? ⟨2, 0, none⟩ = some (.int .i64 m) := cell_of_shapedOpen_int (P := Tryz.prog) (t := 3) (zero := #[.int .i64 0]) hsh (of_decide_eq_true (by kernel_rfl)) (by kernel_rfl) rfl (by kernel_rfl) (by kernel_rfl) Tryz.underlying3
  refine (Does.law (OptionChecks_ok m x0 x1 w1) Tryz.func7 rfl rfl (top_GP hU hm (Lib.laidMet.reads hL1 (.tail _ (.tail _ (.head _))))) (cargs := #[.int .i64 x0, .agg us1]) (by simp only [RepL]; exact ⟨_, _, rfl, (by simp only [RepV, RepF]), _, _, rfl, k1, rfl⟩)).mono fun e W2 ⟨he, bel⟩ => ?_
  subst he
  exact ⟨_, rfl, _, _, _, [], _, [], hW1, trodAll_mk1 (shut_bool Tryz.underlying4 _), ⟨_, _, (shut_int Tryz.underlying3 w0), ⟨_, _, (Below.trod oc_lout (by kernel_rfl) (of_decide_eq_true (by kernel_rfl)) h1 bel l1), trodAll_mk0, rfl⟩, rfl⟩, rfl, bel.frame _, fun h => by cases h⟩

theorem oc_holds : Rows.OptionChecksSaid :=
  OpenClaim.holds_of_wide 7 Tryz.f7 rfl rfl rfl rfl rfl rfl rfl ⟨rfl, rfl, rfl, rfl, rfl⟩ rfl rfl rfl rfl rfl (by kernel_rfl) Tryz.func7 oc_joined
    (of_decide_eq_true (by kernel_rfl)) (by unfold Func.isWrapper; rw [if_neg (of_decide_eq_false (by kernel_rfl))]; exact ⟨rfl, rfl⟩)
    (fun os started H enc _ => oc_lifted os started H enc)
end Go.Proofs.YtjjppmbojcgdgaaGreatDoor
