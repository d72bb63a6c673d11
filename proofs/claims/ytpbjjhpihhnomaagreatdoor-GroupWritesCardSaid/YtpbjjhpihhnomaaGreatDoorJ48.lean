/- Proved: for all arguments, florinlaw18.GroupWrites returns true, and its arguments read behind the call as they read before. Conditions: none but the row's own (package variables read as the program's text sets them, which the card ties). -/
import Derived.Test.YtpbjjhpihhnomaaGreatDoorJ35
import Derived.Test.YtpbjjhpihhnomaaGreatDoorJ47
import Derived.Test.YtpbjjhpihhnomaaGreatDoorRows
import Derived.Test.YtpbjjhpihhnomaaGreatDoorJ45
import Derived.Test.YtpbjjhpihhnomaaGreatDoorJ14
import Derived.Test.YtpbjjhpihhnomaaGreatDoorJ07
import Derived.Test.YtpbjjhpihhnomaaGreatDoorAbsC
import Derived.Lib.LaidU8
import Derived.Lib.LaidIn
import Derived.Shelf.Vars
import Derived.ProofKit
import Derived.ChangeOld
import Derived.Carry
import Derived.Lay
import Derived.Test.YtpbjjhpihhnomaaGreatDoorTie
import Derived.Test.YtpbjjhpihhnomaaGreatDoorCards
import Derived.SevenTiedAt
set_option linter.unusedVariables false
set_option linter.unusedSimpArgs false
set_option maxRecDepth 100000
set_option maxHeartbeats 4000000

namespace Go.Proofs.YtpbjjhpihhnomaaGreatDoor
open Go Go.Abs Go.Opn
theorem GroupWrites_ok (m : Int) (n : Int) (a b : List Int) (last more : Int) (neg : Bool) (ha : a.length ≤ 140737488355328 ∧ ∀ z ∈ a, 0 ≤ z ∧ z ≤ 255) (hb : b.length ≤ 140737488355328 ∧ ∀ z ∈ b, 0 ≤ z ∧ z ≤ 255) :
    Does Tryz.prog (GL m) 5 [.int .i64 n, .fsl (a.map byE), .fsl (b.map byE), .int .i64 last, .int .i64 more, .bool neg] [] fun ae _ => ae = .ret (.bool true) := by
  rw [byE_eq a ha.2, byE_eq b hb.2]
  exact GroupWrites_does n _ _ (by rw [List.length_map]; exact ha.1) (by rw [List.length_map]; exact hb.1) last more neg
end Go.Proofs.YtpbjjhpihhnomaaGreatDoor

namespace Go.Proofs.YtpbjjhpihhnomaaGreatDoor
open Go Go.Abs Go.Shelf Go.Opn
open Go.ChangeShapes Go.WideShapes Go.ChangeAt Go.RowKit
theorem groupWrites_own : ownKnob Tryz.prog.godebug = none := by kernel_rfl
theorem groupWrites_lout : laidOutB Tryz.prog = true := by kernel_rfl
noncomputable def groupWrites_world (os : Os) : World := World.laidAll Tryz.prog os Rows.groupWritesRow.laid
theorem groupWrites_laid (os : Os) (args : Array Value) : laidMet Tryz.prog Rows.groupWritesRow.laid ((groupWrites_world os).forCall (fun _ _ => 0) ⟨#[], args, []⟩).memory :=
  laidMet_laidAll args (by kernel_rfl) (by kernel_rfl)
set_option maxRecDepth 100000 in
theorem groupWrites_lifted (os : Os) (started : os.Started) (H : Type) (enc : TypeId × Value → H) :
    ReturnsInHanded {} Tryz.checked os 5 .any (fun w args => (Rows.groupWritesSpec.pre enc Tryz.prog Tryz.f5 Rows.groupWritesRow.domain false w args ∧ laidMetH Tryz.prog Rows.groupWritesRow.laid w) ∧ sizedMet enc Tryz.prog Tryz.f5 (OpenSpec.ofChange Rows.groupWritesSpec) false w args)
      (Rows.groupWritesSpec.post enc Tryz.prog Tryz.f5 false true false false) := by
  refine returns_both (C := Tryz.checked) (X := fun w _ => laidMetH Tryz.prog Rows.groupWritesRow.laid w) (fun _ _ _ hh h => h.of_heap hh) groupWrites_own started (by kernel_rfl) Tryz.func5
    (ChangeSpec.witness_at (enc := enc) (C := Tryz.checked) (os := os) (X := fun w _ => laidMetH Tryz.prog Rows.groupWritesRow.laid w) false (groupWrites_world os) #[.int .i64 0, .slice none 0 0, .slice none 0 0, .int .i64 0, .int .i64 0, .bool false] 8 (World.laidAll_os _ _ _) (by kernel_rfl) (by kernel_rfl) (by kernel_rfl) (by kernel_rfl) (by kernel_rfl) (groupWrites_laid os _)) ?_
  intro W base args ds gs before hval0 hW _ hsz0 hL hsh _
  have hsz : (DataW.weightsEach Tryz.prog (Tryz.f5.params.toList ++ Rows.groupWritesSpec.plain.varTypes Tryz.prog) (ds ++ gs)).all (· ≤ reachBytes) = true := hsz0
  have hval : ∀ (j : Nat) t v, Tryz.f5.params[j]? = some t → args[j]? = some v → Value.okWide Tryz.prog W .any base t v := hval0
  have hW1 := hW
  obtain ⟨p, q, hA0, hV, rfl, hfz, hnd⟩ := hW
  have hA : DataW.TrodAll enc Tryz.prog W 0 (fun _ => true) true Tryz.f5.params.toList args.toList ds p := hA0
  rw [Tryz.params5] at hA hval hsz
  obtain ⟨v0, vs0, d0, e0, p0, q0, hargs, rfl, rfl, h0, r0⟩ := trodAll_cons hA
  obtain ⟨v1, vs1, d1, e1, p1, q1, rfl, rfl, rfl, h1, r1⟩ := trodAll_cons r0
  obtain ⟨v2, vs2, d2, e2, p2, q2, rfl, rfl, rfl, h2, r2⟩ := trodAll_cons r1
  obtain ⟨v3, vs3, d3, e3, p3, q3, rfl, rfl, rfl, h3, r3⟩ := trodAll_cons r2
  obtain ⟨v4, vs4, d4, e4, p4, q4, rfl, rfl, rfl, h4, r4⟩ := trodAll_cons r3
  obtain ⟨v5, vs5, d5, e5, p5, q5, rfl, rfl, rfl, h5, r5⟩ := trodAll_cons r4
  obtain ⟨rfl, rfl, rfl⟩ := trodAll_nil r5
  obtain rfl : args = #[v0, v1, v2, v3, v4, v5] := by cases args; simp_all
  obtain ⟨rfl, rfl⟩ := trodVars_none hV
  have l1 : ∀ x ∈ p1, x.block < W.heap.size := fun x hx => by simpa using hW1.lt x (by simp [hx])
  have l2 : ∀ x ∈ p2, x.block < W.heap.size := fun x hx => by simpa using hW1.lt x (by simp [hx])
  obtain ⟨x0, rfl, rfl, rfl, w0⟩ := open_int Tryz.underlying3 (hval 0 3 v0 rfl rfl) h0
  have z1 : Sized Tryz.prog 22 d1 := Sized.of_each hsz (i := 1) rfl rfl
  obtain ⟨x1, w1, k1⟩ := oBytes.one (g := _) (slice_cells Tryz.underlying22 (hval 1 22 v1 rfl rfl)) h1 z1
  have z2 : Sized Tryz.prog 22 d2 := Sized.of_each hsz (i := 2) rfl rfl
  obtain ⟨x2, w2, k2⟩ := oBytes.one (g := _) (slice_cells Tryz.underlying22 (hval 2 22 v2 rfl rfl)) h2 z2
  obtain ⟨x3, rfl, rfl, rfl, w3⟩ := open_int Tryz.underlying3 (hval 3 3 v3 rfl rfl) h3
  obtain ⟨x4, rfl, rfl, rfl, w4⟩ := open_int Tryz.underlying3 (hval 4 3 v4 rfl rfl) h4
  obtain ⟨x5, rfl, rfl, rfl⟩ := open_bool Tryz.underlying4 (hval 5 4 v5 rfl rfl) h5
  clear hA0 hval0 hsz0 hsz
  have hL1 : laidMet Tryz.prog Rows.groupWritesRow.laid W := hL
  have hU : Lib.Utf8Tabs 0 1 W :=
    utf8Tabs_of_reads (ρ := Tryz.lays197_ren) { Tryz.lays197 with } ⟨by kernel_rfl, by kernel_rfl, by kernel_rfl, by kernel_rfl, by kernel_rfl, by kernel_rfl, by kernel_rfl⟩
      (Lib.laidMet.reads hL1 (.tail _ (.tail _ (.tail _ (.tail _ (.tail _ (.tail _ (.head _)))))))) (Lib.laidMet.reads hL1 (.tail _ (.tail _ (.tail _ (.head _)))))
  obtain ⟨m, hm⟩ : ∃ m, W.cell? ⟨2, 0, none⟩ = some (.int .i64 m) := cell_of_shapedOpen_int (P := Tryz.prog) (t := 3) (zero := #[.int .i64 0]) hsh (of_decide_eq_true (by kernel_rfl)) (by kernel_rfl) rfl (by kernel_rfl) (by kernel_rfl) Tryz.underlying3
  refine (Does.law (GroupWrites_ok m x0 x1 x2 x3 x4 x5 w1 w2) Tryz.func5 rfl rfl (top_GL hU hm) (cargs := #[.int .i64 x0, v1, v2, .int .i64 x3, .int .i64 x4, .bool x5]) (by simp only [RepL]; exact ⟨_, _, rfl, (by simp only [RepV, RepF]), _, _, rfl, k1, _, _, rfl, k2, _, _, rfl, (by simp only [RepV, RepF]), _, _, rfl, (by simp only [RepV, RepF]), _, _, rfl, (by simp only [RepV, RepF]), rfl⟩)).mono fun e W2 ⟨he, bel⟩ => ?_
  subst he
  exact ⟨_, rfl, _, _, _, [], _, [], hW1, trodAll_mk1 (shut_bool Tryz.underlying4 _), ⟨_, _, (shut_int Tryz.underlying3 w0), ⟨_, _, (Below.trod groupWrites_lout (by kernel_rfl) (of_decide_eq_true (by kernel_rfl)) h1 bel l1), ⟨_, _, (Below.trod groupWrites_lout (by kernel_rfl) (of_decide_eq_true (by kernel_rfl)) h2 bel l2), ⟨_, _, (shut_int Tryz.underlying3 w3), ⟨_, _, (shut_int Tryz.underlying3 w4), ⟨_, _, (shut_bool Tryz.underlying4 _), trodAll_mk0, rfl⟩, rfl⟩, rfl⟩, rfl⟩, rfl⟩, rfl⟩, rfl, bel.frame _, fun h => by cases h⟩
theorem groupWrites_holds : Rows.GroupWritesSaid :=
  OpenClaim.holds_of_wide 5 Tryz.f5 rfl rfl rfl rfl rfl rfl rfl ⟨rfl, rfl, rfl, rfl, rfl⟩ rfl rfl rfl rfl rfl (by kernel_rfl) Tryz.func5 groupWrites_joined
    (of_decide_eq_true (by kernel_rfl)) (by unfold Func.isWrapper; rw [if_neg (of_decide_eq_false (by kernel_rfl))]; exact ⟨rfl, rfl⟩)
    (fun os started H enc _ => groupWrites_lifted os started H enc)
end Go.Proofs.YtpbjjhpihhnomaaGreatDoor

namespace Go.Proofs.YtpbjjhpihhnomaaGreatDoor
open Go
theorem groupWrites_c1 : Rows.groupWritesRow.wfByText (OpenSpec.ofChange Rows.groupWritesSpec) = true := by kernel_rfl
theorem groupWrites_c2 : Tryz.prog.mainIs = some ((true, "48a24817cee2ea25fcacd8d4c2f04619d293d9d164808228d1d6e1fc644b1e63").1, (true, "48a24817cee2ea25fcacd8d4c2f04619d293d9d164808228d1d6e1fc644b1e63").2.toList) := by kernel_rfl
theorem groupWrites_c3 : Tryz.prog.funcNamed "florin/florinlaw18.GroupWrites" = some 5 := by kernel_rfl
theorem groupWrites_c4 : true = Tryz.prog.looks [] := by kernel_rfl
theorem groupWrites_c6 : false = Rows.groupWritesRow.goesBy Tryz.prog := by kernel_rfl
theorem groupWrites_card : Rows.GroupWritesCardSaid :=
  Claim7.holds_tied_plain_at .later [] [.data, .data, .data, .data, .sentinel, .sentinel, .pinned] true (true, "48a24817cee2ea25fcacd8d4c2f04619d293d9d164808228d1d6e1fc644b1e63") true
    groupWrites_holds (fun _ h => by cases h) groupWrites_c1 (fun _ h => by cases h) groupWrites_row_tie rfl ⟨rfl, rfl⟩ groupWrites_c2 rfl
    (fun f fn hf hfn => by
      obtain rfl : f = 5 := Option.some.inj (groupWrites_c3.symm.trans hf) |>.symm
      obtain rfl : fn = Tryz.f5 := (Option.some.inj (Tryz.func5.symm.trans hfn)).symm
      exact ⟨groupWrites_c4, fun j t ht => by
        rw [Tryz.params5] at ht
        have h3 : t = 3 ∨ t = 22 ∨ t = 4 := by
          rcases j with _ | _ | _ | _ | _ | _ | j
          · exact .inl (by simpa using ht.symm)
          · exact .inr (.inl (by simpa using ht.symm))
          · exact .inr (.inl (by simpa using ht.symm))
          · exact .inl (by simpa using ht.symm)
          · exact .inl (by simpa using ht.symm)
          · exact .inr (.inr (by simpa using ht.symm))
          · simp at ht
        rcases h3 with rfl | rfl | rfl
        · exact (show Tryz.prog.wantsStandIn 3 = false by kernel_rfl)
        · exact (show Tryz.prog.wantsStandIn 22 = false by kernel_rfl)
        · exact (show Tryz.prog.wantsStandIn 4 = false by kernel_rfl)⟩)
    groupWrites_c6
#print axioms groupWrites_card
end Go.Proofs.YtpbjjhpihhnomaaGreatDoor
