/- Proved: for all arguments, florinlaw16.ValidMany returns true, and its arguments read behind the call as they read before. Conditions: none but the row's own (package variables read as the program's text sets them, which the card ties). -/
import Derived.Test.YtpipbjfcbbdicaaGreatDoorRows
import Derived.Test.YtpipbjfcbbdicaaGreatDoorK21
import Derived.Test.YtpipbjfcbbdicaaGreatDoorJ15
import Derived.Test.YtpipbjfcbbdicaaGreatDoorAbsC
import Derived.Lib.LaidU8
import Derived.Lib.LaidIn
import Derived.Shelf.Vars
import Derived.ProofKit
import Derived.ChangeOld
import Derived.Carry
import Derived.Lay
import Derived.Test.YtpipbjfcbbdicaaGreatDoorTie
import Derived.Test.YtpipbjfcbbdicaaGreatDoorCards
import Derived.SevenTiedAt
set_option linter.unusedVariables false
set_option linter.unusedSimpArgs false
set_option maxRecDepth 100000
set_option maxHeartbeats 4000000

namespace Go.Proofs.YtpipbjfcbbdicaaGreatDoor
open Go Go.Abs Go.Shelf Go.Opn
open Go.ChangeShapes Go.WideShapes Go.ChangeAt Go.RowKit

theorem validMany_own : ownKnob Tryz.prog.godebug = none := by kernel_rfl
theorem validMany_lout : laidOutB Tryz.prog = true := by kernel_rfl
noncomputable def validMany_world (os : Os) : World := World.laidAll Tryz.prog os Rows.validManyRow.laid
theorem validMany_laid (os : Os) (args : Array Value) : laidMet Tryz.prog Rows.validManyRow.laid ((validMany_world os).forCall (fun _ _ => 0) ⟨#[], args, []⟩).memory :=
  laidMet_laidAll args (by kernel_rfl) (by kernel_rfl)
set_option maxRecDepth 100000 in
theorem validMany_lifted (os : Os) (started : os.Started) (H : Type) (enc : TypeId × Value → H) :
    ReturnsInHanded {} Tryz.checked os 5 .any (fun w args => (Rows.validManySpec.pre enc Tryz.prog Tryz.f5 Rows.validManyRow.domain false w args ∧ laidMetH Tryz.prog Rows.validManyRow.laid w) ∧ sizedMet enc Tryz.prog Tryz.f5 (OpenSpec.ofChange Rows.validManySpec) false w args)
      (Rows.validManySpec.post enc Tryz.prog Tryz.f5 false true false false) := by
  refine returns_both (C := Tryz.checked) (X := fun w _ => laidMetH Tryz.prog Rows.validManyRow.laid w) (fun _ _ _ hh h => h.of_heap hh) validMany_own started (by kernel_rfl) Tryz.func5
    (ChangeSpec.witness_at (enc := enc) (C := Tryz.checked) (os := os) (X := fun w _ => laidMetH Tryz.prog Rows.validManyRow.laid w) false (validMany_world os) #[.int .i64 0, .int .i64 0, .int .i64 0, .int .i64 0, .int .i64 0] 8 (World.laidAll_os _ _ _) (by kernel_rfl) (by kernel_rfl) (by kernel_rfl) (by kernel_rfl) (by kernel_rfl) (validMany_laid os _)) ?_
  intro W base args ds gs before hval0 hW _ hsz0 hL hsh _
  have hsz : (DataW.weightsEach Tryz.prog (Tryz.f5.params.toList ++ Rows.validManySpec.plain.varTypes Tryz.prog) (ds ++ gs)).all (· ≤ reachBytes) = true := hsz0
  have hval : ∀ (j : Nat) t v, Tryz.f5.params[j]? = some t → args[j]? = some v → Value.okWide Tryz.prog W .any base t v := hval0
  have hW1 := hW
  obtain ⟨p, q, hA0, hV, rfl, hfz, hnd⟩ := hW
  have hA : DataW.TrodAll enc Tryz.prog W 0 (fun _ => true) true Tryz.f5.params.toList args.toList ds p := hA0
  rw [Tryz.params5] at hA hval hsz
  obtain ⟨v0, vs0, d0, e0, p0, q0, hargs, rfl, rfl, h0, r0⟩ := trodAll_cons hA
  obtain ⟨v1, vs1, d1, e1, p1, q1, rfl, rfl, rfl, h1, r1⟩ := trodAll_cons r0
  obtain ⟨v2, vs2, d2, e2, p2, q2, rfl, rfl, rfl, h2, r2⟩ := trodAll_cons r1
  obtain ⟨v3, vs3, d3, e3, p3, q3, rfl, rfl, rfl, h3, r3⟩ := trodAll_cons r2
  obtain ⟨v4, vs4, d4, e4, p4, q4, rfl, rfl, rfl, h4, r4⟩ := trodAll_cons r3
  obtain ⟨rfl, rfl, rfl⟩ := trodAll_nil r4
  obtain rfl : args = #[v0, v1, v2, v3, v4] := by cases args; simp_all
  obtain ⟨rfl, rfl⟩ := trodVars_none hV
  obtain ⟨x0, rfl, rfl, rfl, w0⟩ := open_int Tryz.underlying3 (hval 0 3 v0 rfl rfl) h0
  obtain ⟨x1, rfl, rfl, rfl, w1⟩ := open_int Tryz.underlying3 (hval 1 3 v1 rfl rfl) h1
  obtain ⟨x2, rfl, rfl, rfl, w2⟩ := open_int Tryz.underlying3 (hval 2 3 v2 rfl rfl) h2
  obtain ⟨x3, rfl, rfl, rfl, w3⟩ := open_int Tryz.underlying3 (hval 3 3 v3 rfl rfl) h3
  obtain ⟨x4, rfl, rfl, rfl, w4⟩ := open_int Tryz.underlying3 (hval 4 3 v4 rfl rfl) h4
  clear hA0 hval0 hsz0 hsz
  have hL1 : laidMet Tryz.prog Rows.validManyRow.laid W := hL
  have hU : Lib.Utf8Tabs 0 1 W :=
    utf8Tabs_of_reads (ρ := Tryz.lays197_ren) { Tryz.lays197 with } ⟨by kernel_rfl, by kernel_rfl, by kernel_rfl, by kernel_rfl, by kernel_rfl, by kernel_rfl, by kernel_rfl⟩
      (Lib.laidMet.reads hL1 (.tail _ (.tail _ (.tail _ (.tail _ (.tail _ (.tail _ (.head _)))))))) (Lib.laidMet.reads hL1 (.tail _ (.tail _ (.tail _ (.head _)))))
  obtain ⟨m, hm⟩ : ∃ m, W.cell? ⟨5, 0, none⟩ = some (.int .i64 m) := cell_of_shapedOpen_int (P := Tryz.prog) (t := 3) (zero := #[.int .i64 0]) hsh (of_decide_eq_true (by kernel_rfl)) (by kernel_rfl) rfl (by kernel_rfl) (by kernel_rfl) Tryz.underlying3
  refine (Does.law (ValidMany_ok m x0 x1 x2 x3 x4) Tryz.func5 rfl rfl (top_GD hU hm (Lib.laidMet.reads hL1 (.tail _ (.head _)))) (cargs := #[.int .i64 x0, .int .i64 x1, .int .i64 x2, .int .i64 x3, .int .i64 x4]) (by simp only [RepL]; exact ⟨_, _, rfl, (by simp only [RepV, RepF]), _, _, rfl, (by simp only [RepV, RepF]), _, _, rfl, (by simp only [RepV, RepF]), _, _, rfl, (by simp only [RepV, RepF]), _, _, rfl, (by simp only [RepV, RepF]), rfl⟩)).mono fun e W2 ⟨he, bel⟩ => ?_
  subst he
  exact ⟨_, rfl, _, _, _, [], _, [], hW1, trodAll_mk1 (shut_bool Tryz.underlying4 _), ⟨_, _, (shut_int Tryz.underlying3 w0), ⟨_, _, (shut_int Tryz.underlying3 w1), ⟨_, _, (shut_int Tryz.underlying3 w2), ⟨_, _, (shut_int Tryz.underlying3 w3), ⟨_, _, (shut_int Tryz.underlying3 w4), trodAll_mk0, rfl⟩, rfl⟩, rfl⟩, rfl⟩, rfl⟩, rfl, bel.frame _, fun h => by cases h⟩

theorem validMany_holds : Rows.ValidManySaid :=
  OpenClaim.holds_of_wide 5 Tryz.f5 rfl rfl rfl rfl rfl rfl rfl ⟨rfl, rfl, rfl, rfl, rfl⟩ rfl rfl rfl rfl rfl (by kernel_rfl) Tryz.func5 (by kernel_rfl)
    (of_decide_eq_true (by kernel_rfl)) (by unfold Func.isWrapper; rw [if_neg (of_decide_eq_false (by kernel_rfl))]; exact ⟨rfl, rfl⟩)
    (fun os started H enc _ => validMany_lifted os started H enc)
end Go.Proofs.YtpipbjfcbbdicaaGreatDoor

namespace Go.Proofs.YtpipbjfcbbdicaaGreatDoor
open Go
theorem validMany_card : Rows.ValidManyCardSaid :=
  Claim7.holds_tied_plain_at .later [] [.data, .data, .data, .data, .sentinel, .sentinel, .pinned] true (true, "1428e2b7c30448e90fe1d2ac7527b8b28158f67c7dd2b7ee40bb4a17c3521609") true
    validMany_holds (fun _ h => by cases h) (by kernel_rfl) (fun _ h => by cases h) validMany_row_tie rfl ⟨rfl, rfl⟩ (by kernel_rfl) rfl
    (fun f fn hf hfn => by
      obtain rfl : f = 5 := Option.some.inj ((show Tryz.prog.funcNamed "florin/florinlaw16.ValidMany" = some 5 by kernel_rfl).symm.trans hf) |>.symm
      obtain rfl : fn = Tryz.f5 := (Option.some.inj (Tryz.func5.symm.trans hfn)).symm
      exact ⟨by kernel_rfl, fun j t ht => by
        rw [Tryz.params5] at ht
        have h3 : t = 3 := by
          rcases j with _ | _ | _ | _ | _ | j
          · exact (by simpa using ht.symm)
          · exact (by simpa using ht.symm)
          · exact (by simpa using ht.symm)
          · exact (by simpa using ht.symm)
          · exact (by simpa using ht.symm)
          · simp at ht
        rcases h3 with rfl
        · exact (show Tryz.prog.wantsStandIn 3 = false by kernel_rfl)⟩)
    (by kernel_rfl)
#print axioms validMany_card
end Go.Proofs.YtpipbjfcbbdicaaGreatDoor
