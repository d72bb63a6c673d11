/- Proved: for all arguments, florinlaw22.OptionReads returns true, and its arguments read behind the call as they read before. Conditions: none but the row's own (package variables read as the program's text sets them, which the card ties). -/
import Derived.Test.YtjjppmbojcgdgaaGreatDoorRowOptionReads
import Derived.Test.YtjjppmbojcgdgaaGreatDoorTie
import Derived.Test.YtjjppmbojcgdgaaGreatDoorCards
import Derived.SevenTiedAt
set_option linter.unusedVariables false
set_option linter.unusedSimpArgs false
set_option maxRecDepth 100000
set_option maxHeartbeats 4000000
namespace Go.Proofs.YtjjppmbojcgdgaaGreatDoor
open Go
theorem optionReads_c1 : Rows.optionReadsRow.wfByText (OpenSpec.ofChange Rows.optionReadsSpec) = true := by kernel_rfl
theorem optionReads_c2 : Tryz.prog.mainIs = some ((true, "0f58dcf2b98dabad266c9e72a14a9a710b8123ebaf6f02da47a523eba1b6a7b7").1, (true, "0f58dcf2b98dabad266c9e72a14a9a710b8123ebaf6f02da47a523eba1b6a7b7").2.toList) := by kernel_rfl
theorem optionReads_c3 : Tryz.prog.funcNamed "florin/florinlaw22.OptionReads" = some 9 := by kernel_rfl
theorem optionReads_c4 : true = Tryz.prog.looks [] := by kernel_rfl
theorem optionReads_c6 : false = Rows.optionReadsRow.goesBy Tryz.prog := by kernel_rfl
theorem optionReads_card : Rows.OptionReadsCardSaid :=
  Claim7.holds_tied_plain_at .later [] [.data, .data, .data, .data, .sentinel, .sentinel, .pinned] true (true, "0f58dcf2b98dabad266c9e72a14a9a710b8123ebaf6f02da47a523eba1b6a7b7") true
    optionReads_holds (fun _ h => by cases h) optionReads_c1 (fun _ h => by cases h) optionReads_row_tie rfl ⟨rfl, rfl⟩ optionReads_c2 rfl
    (fun f fn hf hfn => by
      obtain rfl : f = 9 := Option.some.inj (optionReads_c3.symm.trans hf) |>.symm
      obtain rfl : fn = Tryz.f9 := (Option.some.inj (Tryz.func9.symm.trans hfn)).symm
      exact ⟨optionReads_c4, fun j t ht => by
        rw [Tryz.params9] at ht
        have h3 : t = 9 := by
          rcases j with _ | j
          · exact (by simpa using ht.symm)
          · simp at ht
        rcases h3 with rfl
        · exact (show Tryz.prog.wantsStandIn 9 = false by kernel_rfl)⟩)
    optionReads_c6
#print axioms optionReads_card
end Go.Proofs.YtjjppmbojcgdgaaGreatDoor
