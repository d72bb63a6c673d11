/- Proved: for every text s, florinlaw12.CpatReads(s) returns true, and its argument reads behind the call as it read before. Conditions: none but the row's own (package variables read as the program's text sets them, which the card ties). -/
import Derived.Test.YtjbkhjjaajhjaaaDoorRowReads
import Derived.Test.YtjbkhjjaajhjaaaDoorTie
import Derived.Test.YtjbkhjjaajhjaaaDoorCards
import Derived.SevenTiedAt
set_option linter.unusedVariables false
set_option linter.unusedSimpArgs false
namespace Go.Proofs.YtjbkhjjaajhjaaaDoor
open Go
theorem cpatReads_card : Rows.CpatReadsCardSaid :=
  Claim7.holds_tied_plain_at .later [] [.data, .pinned] true (true, "56654617b3a7e8ec1367daf745a4cdf4a135aa179cc04934f37e316e2f553d80") true
    reads_holds (fun _ h => by cases h) (by kernel_rfl) (fun _ h => by cases h) cpatReads_row_tie rfl ⟨rfl, rfl⟩ (by kernel_rfl) rfl
    (fun f fn hf hfn => by
      obtain rfl : f = 3 := Option.some.inj ((show Tryd.prog.funcNamed "florin/florinlaw12.CpatReads" = some 3 by kernel_rfl).symm.trans hf) |>.symm
      obtain rfl : fn = Tryd.f3 := (Option.some.inj (Tryd.func3.symm.trans hfn)).symm
      exact ⟨by kernel_rfl, fun j t ht => by
        rw [Tryd.params3] at ht
        have h3 : t = 9 := by
          rcases j with _ | j
          · simpa using ht.symm
          · simp at ht
        subst h3
        exact (show Tryd.prog.wantsStandIn 9 = false by kernel_rfl)⟩)
    (by kernel_rfl)
#print axioms cpatReads_card
end Go.Proofs.YtjbkhjjaajhjaaaDoor
