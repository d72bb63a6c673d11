/- Proved: for every int n and every bool two, florinlaw12.CpatMany(n, two) returns true, and its arguments read behind the call as they read before. Conditions: none but the row's own (package variables read as the program's text sets them, which the card ties). -/
import Derived.Test.YtjbkhjjaajhjaaaDoorRowMany
import Derived.Test.YtjbkhjjaajhjaaaDoorTie
import Derived.Test.YtjbkhjjaajhjaaaDoorCards
import Derived.SevenTiedAt
set_option linter.unusedVariables false
set_option linter.unusedSimpArgs false
namespace Go.Proofs.YtjbkhjjaajhjaaaDoor
open Go
theorem cpatMany_card : Rows.CpatManyCardSaid :=
  Claim7.holds_tied_plain_at .later [] [.data, .pinned] true (true, "56654617b3a7e8ec1367daf745a4cdf4a135aa179cc04934f37e316e2f553d80") true
    many_holds (fun _ h => by cases h) (by kernel_rfl) (fun _ h => by cases h) cpatMany_row_tie rfl ⟨rfl, rfl⟩ (by kernel_rfl) rfl
    (fun f fn hf hfn => by
      obtain rfl : f = 4 := Option.some.inj ((show Tryd.prog.funcNamed "florin/florinlaw12.CpatMany" = some 4 by kernel_rfl).symm.trans hf) |>.symm
      obtain rfl : fn = Tryd.f4 := (Option.some.inj (Tryd.func4.symm.trans hfn)).symm
      exact ⟨by kernel_rfl, fun j t ht => by
        rw [Tryd.params4] at ht
        have h3 : t = 3 ∨ t = 4 := by
          rcases j with _ | _ | j
          · exact .inl (by simpa using ht.symm)
          · exact .inr (by simpa using ht.symm)
          · simp at ht
        rcases h3 with rfl | rfl
        · exact (show Tryd.prog.wantsStandIn 3 = false by kernel_rfl)
        · exact (show Tryd.prog.wantsStandIn 4 = false by kernel_rfl)⟩)
    (by kernel_rfl)
#print axioms cpatMany_card
end Go.Proofs.YtjbkhjjaajhjaaaDoor
