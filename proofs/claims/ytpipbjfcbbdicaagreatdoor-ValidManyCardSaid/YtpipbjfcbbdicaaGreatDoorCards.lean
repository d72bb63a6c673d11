/-
  DERIVED. GIVEN WITH THE SEED: THE CARDS: each row of YtpipbjfcbbdicaaGreatDoorRows.lean that lists a variable, with what it lists TIED to the program's text (the seventh form; the later family's looks); each row that meets fmt, with fmt's text TOLD by the authors' own Lean function (tested against real Go, not proved from fmt's source: count such statements apart). THE CARD IS WHAT COUNTS. Prove the row's statement (the work); the ties are given (YtpipbjfcbbdicaaGreatDoorTie.lean); close each card by the builder's one call (the guide's Derived/Test/ToyasCard.lean, 'card_holds'). Laid BY PROGRAM, IN A SANDBOX (cutbox-door.mjs). By AI agents, Wed Nov 11 2026. No macro, syntax, notation, axiom, sorry.
-/
import Derived.Test.YtpipbjfcbbdicaaGreatDoorRows
import GoSem.ClaimSeven
namespace Go.Proofs.YtpipbjfcbbdicaaGreatDoor
namespace Rows

/-- THE TIED CARD OF 'florinlaw16.ValidWhy'. -/
def validWhyCard : Claim7 := { stood := { row := validWhyRow, standIns := [], harness := (true, "1428e2b7c30448e90fe1d2ac7527b8b28158f67c7dd2b7ee40bb4a17c3521609"), looks := true }, kinds := [], alts := [], laidByText := true, laidKinds := [.data, .data, .data, .data, .sentinel, .sentinel, .pinned], laidTests := true, laidLooks := .later }
def ValidWhyCardSaid : Prop := Claim7.holds Tryz.pinned (.plain (OpenSpec.ofChange validWhySpec)) validWhyCard

/-- THE TIED CARD OF 'florinlaw16.ValidTwists'. -/
def validTwistsCard : Claim7 := { stood := { row := validTwistsRow, standIns := [], harness := (true, "1428e2b7c30448e90fe1d2ac7527b8b28158f67c7dd2b7ee40bb4a17c3521609"), looks := true }, kinds := [], alts := [], laidByText := true, laidKinds := [.data, .data, .data, .data, .sentinel, .sentinel, .pinned], laidTests := true, laidLooks := .later }
def ValidTwistsCardSaid : Prop := Claim7.holds Tryz.pinned (.plain (OpenSpec.ofChange validTwistsSpec)) validTwistsCard

/-- THE TIED CARD OF 'florinlaw16.ValidMany'. -/
def validManyCard : Claim7 := { stood := { row := validManyRow, standIns := [], harness := (true, "1428e2b7c30448e90fe1d2ac7527b8b28158f67c7dd2b7ee40bb4a17c3521609"), looks := true }, kinds := [], alts := [], laidByText := true, laidKinds := [.data, .data, .data, .data, .sentinel, .sentinel, .pinned], laidTests := true, laidLooks := .later }
def ValidManyCardSaid : Prop := Claim7.holds Tryz.pinned (.plain (OpenSpec.ofChange validManySpec)) validManyCard

/-- THE SECOND FORM's CARD OF 'florinlaw16.ValidWhy'. -/
def validWhyUptoCard : Claim7 := { stood := { row := validWhyUptoRow, standIns := [], harness := (true, "1428e2b7c30448e90fe1d2ac7527b8b28158f67c7dd2b7ee40bb4a17c3521609"), looks := true }, kinds := [], alts := [], laidByText := true, laidKinds := [.data, .data, .data, .data, .sentinel, .sentinel, .pinned], laidTests := true, laidLooks := .later }
def ValidWhyUptoCardSaid : Prop := Claim7.holds Tryz.pinned (.plain (OpenSpec.upto validWhySpec)) validWhyUptoCard

/-- THE SECOND FORM's CARD OF 'florinlaw16.ValidTwists'. -/
def validTwistsUptoCard : Claim7 := { stood := { row := validTwistsUptoRow, standIns := [], harness := (true, "1428e2b7c30448e90fe1d2ac7527b8b28158f67c7dd2b7ee40bb4a17c3521609"), looks := true }, kinds := [], alts := [], laidByText := true, laidKinds := [.data, .data, .data, .data, .sentinel, .sentinel, .pinned], laidTests := true, laidLooks := .later }
def ValidTwistsUptoCardSaid : Prop := Claim7.holds Tryz.pinned (.plain (OpenSpec.upto validTwistsSpec)) validTwistsUptoCard

/-- THE SECOND FORM's CARD OF 'florinlaw16.ValidMany'. -/
def validManyUptoCard : Claim7 := { stood := { row := validManyUptoRow, standIns := [], harness := (true, "1428e2b7c30448e90fe1d2ac7527b8b28158f67c7dd2b7ee40bb4a17c3521609"), looks := true }, kinds := [], alts := [], laidByText := true, laidKinds := [.data, .data, .data, .data, .sentinel, .sentinel, .pinned], laidTests := true, laidLooks := .later }
def ValidManyUptoCardSaid : Prop := Claim7.holds Tryz.pinned (.plain (OpenSpec.upto validManySpec)) validManyUptoCard
end Rows
end Go.Proofs.YtpipbjfcbbdicaaGreatDoor
