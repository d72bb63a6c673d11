/-
  DERIVED. GIVEN WITH THE SEED: THE CARDS: each row of YtjbkhjjaajhjaaaDoorRows.lean that lists a variable, with what it lists TIED to the program's text (the seventh form; the later family's looks); each row that meets fmt, with fmt's text TOLD by the authors' own Lean function (tested against real Go, not proved from fmt's source: count such statements apart). THE CARD IS WHAT COUNTS. Prove the row's statement (the work); the ties are given (YtjbkhjjaajhjaaaDoorTie.lean); close each card by the builder's one call (the guide's Derived/Test/ToyasCard.lean, 'card_holds'). Laid BY PROGRAM, IN A SANDBOX (cutbox-door.mjs). By AI agents, Wed Nov 11 2026. No macro, syntax, notation, axiom, sorry.
-/
import Derived.Test.YtjbkhjjaajhjaaaDoorRows
import GoSem.ClaimSeven
namespace Go.Proofs.YtjbkhjjaajhjaaaDoor
namespace Rows

/-- THE TIED CARD OF 'florinlaw12.CpatReads'. -/
def cpatReadsCard : Claim7 := { stood := { row := cpatReadsRow, standIns := [], harness := (true, "56654617b3a7e8ec1367daf745a4cdf4a135aa179cc04934f37e316e2f553d80"), looks := true }, kinds := [], alts := [], laidByText := true, laidKinds := [.data, .pinned], laidTests := true, laidLooks := .later }
def CpatReadsCardSaid : Prop := Claim7.holds Tryd.pinned (.plain (OpenSpec.ofChange cpatReadsSpec)) cpatReadsCard

/-- THE TIED CARD OF 'florinlaw12.CpatMany'. -/
def cpatManyCard : Claim7 := { stood := { row := cpatManyRow, standIns := [], harness := (true, "56654617b3a7e8ec1367daf745a4cdf4a135aa179cc04934f37e316e2f553d80"), looks := true }, kinds := [], alts := [], laidByText := true, laidKinds := [.data, .pinned], laidTests := true, laidLooks := .later }
def CpatManyCardSaid : Prop := Claim7.holds Tryd.pinned (.plain (OpenSpec.ofChange cpatManySpec)) cpatManyCard

/-- THE SECOND FORM's CARD OF 'florinlaw12.CpatReads'. -/
def cpatReadsUptoCard : Claim7 := { stood := { row := cpatReadsUptoRow, standIns := [], harness := (true, "56654617b3a7e8ec1367daf745a4cdf4a135aa179cc04934f37e316e2f553d80"), looks := true }, kinds := [], alts := [], laidByText := true, laidKinds := [.data, .pinned], laidTests := true, laidLooks := .later }
def CpatReadsUptoCardSaid : Prop := Claim7.holds Tryd.pinned (.plain (OpenSpec.upto cpatReadsSpec)) cpatReadsUptoCard

/-- THE SECOND FORM's CARD OF 'florinlaw12.CpatMany'. -/
def cpatManyUptoCard : Claim7 := { stood := { row := cpatManyUptoRow, standIns := [], harness := (true, "56654617b3a7e8ec1367daf745a4cdf4a135aa179cc04934f37e316e2f553d80"), looks := true }, kinds := [], alts := [], laidByText := true, laidKinds := [.data, .pinned], laidTests := true, laidLooks := .later }
def CpatManyUptoCardSaid : Prop := Claim7.holds Tryd.pinned (.plain (OpenSpec.upto cpatManySpec)) cpatManyUptoCard
end Rows
end Go.Proofs.YtjbkhjjaajhjaaaDoor
