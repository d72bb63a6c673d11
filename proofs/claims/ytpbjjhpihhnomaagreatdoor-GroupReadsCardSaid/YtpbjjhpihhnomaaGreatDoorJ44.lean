/- Proved: for all arguments, florinlaw18.GroupReads returns true, and its arguments read behind the call as they read before. Conditions: none but the row's own (package variables read as the program's text sets them, which the card ties). -/
import Derived.Test.YtpbjjhpihhnomaaGreatDoorJ35
import Derived.Test.YtpbjjhpihhnomaaGreatDoorJ43
import Derived.Test.YtpbjjhpihhnomaaGreatDoorRows
import Derived.Test.YtpbjjhpihhnomaaGreatDoorJ51
import Derived.Test.YtpbjjhpihhnomaaGreatDoorJ14
import Derived.Test.YtpbjjhpihhnomaaGreatDoorJ07
import Derived.Test.YtpbjjhpihhnomaaGreatDoorAbsC
import Derived.Lib.LaidU8
import Derived.Lib.LaidIn
import Derived.Shelf.Vars
import Derived.ProofKit
import Derived.ChangeOld
import Derived.Carry
import Derived.Lay
import Derived.Test.YtpbjjhpihhnomaaGreatDoorTie
import Derived.Test.YtpbjjhpihhnomaaGreatDoorCards
import Derived.SevenTiedAt
set_option linter.unusedVariables false
set_option linter.unusedSimpArgs false
set_option maxRecDepth 100000
set_option maxHeartbeats 4000000

namespace Go.Proofs.YtpbjjhpihhnomaaGreatDoor
open Go Go.Abs Go.Opn
theorem oInts : Opnd Tryz.prog 63 1 (fun l : List Int => [.fsl (l.map inL)]) (fun l => l.length ≤ 140737488355328) :=
  (Opnd.slice Tryz.underlying63 (by kernel_rfl) (by omega) (of_decide_eq_true (by kernel_rfl)) oInt).map id (fun _ => rfl) (fun x h => reach_le h.1)
theorem GroupReads_ok (m : Int) (n : Int) (l : List Int) (hl : l.length ≤ 140737488355328) : Does Tryz.prog (GL m) 4 [.int .i64 n, .fsl (l.map inL)] [] fun ae _ => ae = .ret (.bool true) :=
  GroupReads_does n l hl (readB n)
end Go.Proofs.YtpbjjhpihhnomaaGreatDoor

namespace Go.Proofs.YtpbjjhpihhnomaaGreatDoor
open Go Go.Abs Go.Shelf Go.Opn
open Go.ChangeShapes Go.WideShapes Go.ChangeAt Go.RowKit
theorem groupReads_own : ownKnob Tryz.prog.godebug = none := by kernel_rfl
theorem groupReads_lout : laidOutB Tryz.prog = true := by kernel_rfl
noncomputable def groupReads_world (os : Os) : World := World.laidAll Tryz.prog os Rows.groupReadsRow.laid
theorem groupReads_laid (os : Os) (args : Array Value) : laidMet Tryz.prog Rows.groupReadsRow.laid ((groupReads_world os).forCall (fun _ _ => 0) ⟨#[], args, []⟩).memory :=
  laidMet_laidAll args (by kernel_rfl) (by kernel_rfl)
set_option maxRecDepth 100000 in
theorem groupReads_lifted (os : Os) (started : os.Started) (H : Type) (enc : TypeId × Value → H) :
    ReturnsInHanded {} Tryz.checked os 4 .any (fun w args => (Rows.groupReadsSpec.pre enc Tryz.prog Tryz.f4 Rows.groupReadsRow.domain false w args ∧ laidMetH Tryz.prog Rows.groupReadsRow.laid w) ∧ sizedMet enc Tryz.prog Tryz.f4 (OpenSpec.ofChange Rows.groupReadsSpec) false w args)
      (Rows.groupReadsSpec.post enc Tryz.prog Tryz.f4 false true false false) := by
  refine returns_both (C := Tryz.checked) (X := fun w _ => laidMetH Tryz.prog Rows.groupReadsRow.laid w) (fun _ _ _ hh h => h.of_heap hh) groupReads_own started (by kernel_rfl) Tryz.func4
    (ChangeSpec.witness_at (enc := enc) (C := Tryz.checked) (os := os) (X := fun w _ => laidMetH Tryz.prog Rows.groupReadsRow.laid w) false (groupReads_world os) #[.int .i64 0, .slice none 0 0] 8 (World.laidAll_os _ _ _) (by kernel_rfl) (by kernel_rfl) (by kernel_rfl) (by kernel_rfl) (by kernel_rfl) (groupReads_laid os _)) ?_
  intro W base args ds gs before hval0 hW _ hsz0 hL hsh _
  have hsz : (DataW.weightsEach Tryz.prog (Tryz.f4.params.toList ++ Rows.groupReadsSpec.plain.varTypes Tryz.prog) (ds ++ gs)).all (· ≤ reachBytes) = true := hsz0
  have hval : ∀ (j : Nat) t v, Tryz.f4.params[j]? = some t → args[j]? = some v → Value.okWide Tryz.prog W .any base t v := hval0
  have hW1 := hW
  obtain ⟨p, q, hA0, hV, rfl, hfz, hnd⟩ := hW
  have hA : DataW.TrodAll enc Tryz.prog W 0 (fun _ => true) true Tryz.f4.params.toList args.toList ds p := hA0
  rw [Tryz.params4] at hA hval hsz
  obtain ⟨v0, vs0, d0, e0, p0, q0, hargs, rfl, rfl, h0, r0⟩ := trodAll_cons hA
  obtain ⟨v1, vs1, d1, e1, p1, q1, rfl, rfl, rfl, h1, r1⟩ := trodAll_cons r0
  obtain ⟨rfl, rfl, rfl⟩ := trodAll_nil r1
  obtain rfl : args = #[v0, v1] := by cases args; simp_all
  obtain ⟨rfl, rfl⟩ := trodVars_none hV
  have l1 : ∀ x ∈ p1, x.block < W.heap.size := fun x hx => by simpa using hW1.lt x (by simp [hx])
  obtain ⟨x0, rfl, rfl, rfl, w0⟩ := open_int Tryz.underlying3 (hval 0 3 v0 rfl rfl) h0
  have z1 : Sized Tryz.prog 63 d1 := Sized.of_each hsz (i := 1) rfl rfl
  obtain ⟨x1, w1, k1⟩ := oInts.one (g := _) (slice_cells Tryz.underlying63 (hval 1 63 v1 rfl rfl)) h1 z1
  clear hA0 hval0 hsz0 hsz
  have hL1 : laidMet Tryz.prog Rows.groupReadsRow.laid W := hL
  have hU : Lib.Utf8Tabs 0 1 W :=
    utf8Tabs_of_reads (ρ := Tryz.lays197_ren) { Tryz.lays197 with } ⟨by kernel_rfl, by kernel_rfl, by kernel_rfl, by kernel_rfl, by kernel_rfl, by kernel_rfl, by kernel_rfl⟩
      (Lib.laidMet.reads hL1 (.tail _ (.tail _ (.tail _ (.tail _ (.tail _ (.tail _ (.head _)))))))) (Lib.laidMet.reads hL1 (.tail _ (.tail _ (.tail _ (.head _)))))
  obtain ⟨m, hm⟩ : ∃ m, W.cell? ⟨2, 0, none⟩ = some (.int .i64 m) := cell_of_shapedOpen_int (P := Tryz.prog) (t := 3) (zero := #[.int .i64 0]) hsh (of_decide_eq_true (by kernel_rfl)) (by kernel_rfl) rfl (by kernel_rfl) (by kernel_rfl) Tryz.underlying3
  refine (Does.law (GroupReads_ok m x0 x1 w1) Tryz.func4 rfl rfl (top_GL hU hm) (cargs := #[.int .i64 x0, v1]) (by simp only [RepL]; exact ⟨_, _, rfl, (by simp only [RepV, RepF]), _, _, rfl, k1, rfl⟩)).mono fun e W2 ⟨he, bel⟩ => ?_
  subst he
  exact ⟨_, rfl, _, _, _, [], _, [], hW1, trodAll_mk1 (shut_bool Tryz.underlying4 _), ⟨_, _, (shut_int Tryz.underlying3 w0), ⟨_, _, (Below.trod groupReads_lout (by kernel_rfl) (of_decide_eq_true (by kernel_rfl)) h1 bel l1), trodAll_mk0, rfl⟩, rfl⟩, rfl, bel.frame _, fun h => by cases h⟩
theorem groupReads_holds : Rows.GroupReadsSaid :=
  OpenClaim.holds_of_wide 4 Tryz.f4 rfl rfl rfl rfl rfl rfl rfl ⟨rfl, rfl, rfl, rfl, rfl⟩ rfl rfl rfl rfl rfl (by kernel_rfl) Tryz.func4 groupReads_joined
    (of_decide_eq_true (by kernel_rfl)) (by unfold Func.isWrapper; rw [if_neg (of_decide_eq_false (by kernel_rfl))]; exact ⟨rfl, rfl⟩)
    (fun os started H enc _ => groupReads_lifted os started H enc)
end Go.Proofs.YtpbjjhpihhnomaaGreatDoor

namespace Go.Proofs.YtpbjjhpihhnomaaGreatDoor
open Go
theorem groupReads_c1 : Rows.groupReadsRow.wfByText (OpenSpec.ofChange Rows.groupReadsSpec) = true := by kernel_rfl
theorem groupReads_c2 : Tryz.prog.mainIs = some ((true, "48a24817cee2ea25fcacd8d4c2f04619d293d9d164808228d1d6e1fc644b1e63").1, (true, "48a24817cee2ea25fcacd8d4c2f04619d293d9d164808228d1d6e1fc644b1e63").2.toList) := by kernel_rfl
theorem groupReads_c3 : Tryz.prog.funcNamed "florin/florinlaw18.GroupReads" = some 4 := by kernel_rfl
theorem groupReads_c4 : true = Tryz.prog.looks [] := by kernel_rfl
theorem groupReads_c6 : false = Rows.groupReadsRow.goesBy Tryz.prog := by kernel_rfl
theorem groupReads_card : Rows.GroupReadsCardSaid :=
  Claim7.holds_tied_plain_at .later [] [.data, .data, .data, .data, .sentinel, .sentinel, .pinned] true (true, "48a24817cee2ea25fcacd8d4c2f04619d293d9d164808228d1d6e1fc644b1e63") true
    groupReads_holds (fun _ h => by cases h) groupReads_c1 (fun _ h => by cases h) groupReads_row_tie rfl ⟨rfl, rfl⟩ groupReads_c2 rfl
    (fun f fn hf hfn => by
      obtain rfl : f = 4 := Option.some.inj (groupReads_c3.symm.trans hf) |>.symm
      obtain rfl : fn = Tryz.f4 := (Option.some.inj (Tryz.func4.symm.trans hfn)).symm
      exact ⟨groupReads_c4, fun j t ht => by
        rw [Tryz.params4] at ht
        have h3 : t = 3 ∨ t = 63 := by
          rcases j with _ | _ | j
          · exact .inl (by simpa using ht.symm)
          · exact .inr (by simpa using ht.symm)
          · simp at ht
        rcases h3 with rfl | rfl
        · exact (show Tryz.prog.wantsStandIn 3 = false by kernel_rfl)
        · exact (show Tryz.prog.wantsStandIn 63 = false by kernel_rfl)⟩)
    groupReads_c6
#print axioms groupReads_card
end Go.Proofs.YtpbjjhpihhnomaaGreatDoor
