/- Proved: for all arguments, florinlaw17.LocaleCats returns true, and its arguments read behind the call as they read before. Conditions: none but the row's own (package variables read as the program's text sets them, which the card ties). -/
import Derived.Test.YtijdnjngfkohfaaGreatDoorJ45
import Derived.Test.YtijdnjngfkohfaaGreatDoorTie
import Derived.Test.YtijdnjngfkohfaaGreatDoorCards
import Derived.SevenTiedAt
set_option linter.unusedVariables false
set_option linter.unusedSimpArgs false
set_option maxRecDepth 100000
set_option maxHeartbeats 4000000

namespace Go.Proofs.YtijdnjngfkohfaaGreatDoor
open Go
theorem localeCats_c1 : Rows.localeCatsRow.wfByText (OpenSpec.ofChange Rows.localeCatsSpec) = true := by kernel_rfl
theorem localeCats_c2 : Tryz.prog.mainIs = some ((true, "2990809950b8ce2b334c0353547343776c0464da02306a583f69a3d9dc923ebe").1, (true, "2990809950b8ce2b334c0353547343776c0464da02306a583f69a3d9dc923ebe").2.toList) := by kernel_rfl
theorem localeCats_c3 : Tryz.prog.funcNamed "florin/florinlaw17.LocaleCats" = some 3 := by kernel_rfl
theorem localeCats_c4 : true = Tryz.prog.looks [] := by kernel_rfl
theorem localeCats_c6 : false = Rows.localeCatsRow.goesBy Tryz.prog := by kernel_rfl
theorem localeCats_card : Rows.LocaleCatsCardSaid :=
  Claim7.holds_tied_plain_at .later [] [.data, .data, .data, .data, .sentinel, .sentinel, .pinned] true (true, "2990809950b8ce2b334c0353547343776c0464da02306a583f69a3d9dc923ebe") true
    localeCats_holds (fun _ h => by cases h) localeCats_c1 (fun _ h => by cases h) localeCats_row_tie rfl ⟨rfl, rfl⟩ localeCats_c2 rfl
    (fun f fn hf hfn => by
      obtain rfl : f = 3 := Option.some.inj (localeCats_c3.symm.trans hf) |>.symm
      obtain rfl : fn = Tryz.f3 := (Option.some.inj (Tryz.func3.symm.trans hfn)).symm
      exact ⟨localeCats_c4, fun j t ht => by
        rw [Tryz.params3] at ht
        have h3 : t = 22 ∨ t = 3 := by
          rcases j with _ | _ | j
          · exact .inl (by simpa using ht.symm)
          · exact .inr (by simpa using ht.symm)
          · simp at ht
        rcases h3 with rfl | rfl
        · exact (show Tryz.prog.wantsStandIn 22 = false by kernel_rfl)
        · exact (show Tryz.prog.wantsStandIn 3 = false by kernel_rfl)⟩)
    localeCats_c6
#print axioms localeCats_card
end Go.Proofs.YtijdnjngfkohfaaGreatDoor
