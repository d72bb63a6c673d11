/- Proved: for all arguments, florinlaw22.OptionChecks returns true, and its arguments read behind the call as they read before. Conditions: none but the row's own (package variables read as the program's text sets them, which the card ties). -/
import Derived.Test.YtjjppmbojcgdgaaGreatDoorRowOptionChecks
import Derived.Test.YtjjppmbojcgdgaaGreatDoorTie
import Derived.Test.YtjjppmbojcgdgaaGreatDoorCards
import Derived.SevenTiedAt
set_option linter.unusedVariables false
set_option linter.unusedSimpArgs false
set_option maxRecDepth 100000
set_option maxHeartbeats 4000000
namespace Go.Proofs.YtjjppmbojcgdgaaGreatDoor
open Go
theorem oc_c1 : Rows.optionChecksRow.wfByText (OpenSpec.ofChange Rows.optionChecksSpec) = true := by kernel_rfl
theorem oc_c2 : Tryz.prog.mainIs = some ((true, "0f58dcf2b98dabad266c9e72a14a9a710b8123ebaf6f02da47a523eba1b6a7b7").1, (true, "0f58dcf2b98dabad266c9e72a14a9a710b8123ebaf6f02da47a523eba1b6a7b7").2.toList) := by kernel_rfl
theorem oc_c3 : Tryz.prog.funcNamed "florin/florinlaw22.OptionChecks" = some 7 := by kernel_rfl
theorem oc_c4 : true = Tryz.prog.looks [] := by kernel_rfl
theorem oc_c6 : false = Rows.optionChecksRow.goesBy Tryz.prog := by kernel_rfl
theorem oc_card : Rows.OptionChecksCardSaid :=
  Claim7.holds_tied_plain_at .later [] [.data, .data, .data, .data, .sentinel, .sentinel, .pinned] true (true, "0f58dcf2b98dabad266c9e72a14a9a710b8123ebaf6f02da47a523eba1b6a7b7") true
    oc_holds (fun _ h => by cases h) oc_c1 (fun _ h => by cases h) optionChecks_row_tie rfl ⟨rfl, rfl⟩ oc_c2 rfl
    (fun f fn hf hfn => by
      obtain rfl : f = 7 := Option.some.inj (oc_c3.symm.trans hf) |>.symm
      obtain rfl : fn = Tryz.f7 := (Option.some.inj (Tryz.func7.symm.trans hfn)).symm
      exact ⟨oc_c4, fun j t ht => by
        rw [Tryz.params7] at ht
        have h3 : t = 3 ∨ t = 108 := by
          rcases j with _ | _ | j
          · exact .inl (by simpa using ht.symm)
          · exact .inr (by simpa using ht.symm)
          · simp at ht
        rcases h3 with rfl | rfl
        · exact (show Tryz.prog.wantsStandIn 3 = false by kernel_rfl)
        · exact (show Tryz.prog.wantsStandIn 108 = false by kernel_rfl)⟩)
    oc_c6
#print axioms oc_card
end Go.Proofs.YtjjppmbojcgdgaaGreatDoor
