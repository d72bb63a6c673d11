/-
  DERIVED. GIVEN WITH THE SEED: THE CARDS: each row of YtjjppmbojcgdgaaGreatDoorRows.lean that lists a variable, with what it lists TIED to the program's text (the seventh form; the later family's looks); each row that meets fmt, with fmt's text TOLD by the authors' own Lean function (tested against real Go, not proved from fmt's source: count such statements apart). THE CARD IS WHAT COUNTS. Prove the row's statement (the work); the ties are given (YtjjppmbojcgdgaaGreatDoorTie.lean); close each card by the builder's one call (the guide's Derived/Test/ToyasCard.lean, 'card_holds'). Laid BY PROGRAM, IN A SANDBOX (cutbox-door.mjs). By AI agents, Wed Nov 11 2026. No macro, syntax, notation, axiom, sorry.
-/
import Derived.Test.YtjjppmbojcgdgaaGreatDoorRows
import GoSem.ClaimSeven
namespace Go.Proofs.YtjjppmbojcgdgaaGreatDoor
namespace Rows

/-- THE TIED CARD OF 'florinlaw21.SpaceBetween'. -/
def spaceBetweenCard : Claim7 := { stood := { row := spaceBetweenRow, standIns := [], harness := (true, "0f58dcf2b98dabad266c9e72a14a9a710b8123ebaf6f02da47a523eba1b6a7b7"), looks := true }, kinds := [], alts := [], laidByText := true, laidKinds := [.data, .data, .data, .data, .sentinel, .sentinel, .pinned], laidTests := true, laidLooks := .later }
def SpaceBetweenCardSaid : Prop := Claim7.holds Tryz.pinned (.plain (OpenSpec.ofChange spaceBetweenSpec)) spaceBetweenCard

/-- THE TIED CARD OF 'florinlaw21.SpaceAffix'. -/
def spaceAffixCard : Claim7 := { stood := { row := spaceAffixRow, standIns := [], harness := (true, "0f58dcf2b98dabad266c9e72a14a9a710b8123ebaf6f02da47a523eba1b6a7b7"), looks := true }, kinds := [], alts := [], laidByText := true, laidKinds := [.data, .data, .data, .data, .sentinel, .sentinel, .pinned], laidTests := true, laidLooks := .later }
def SpaceAffixCardSaid : Prop := Claim7.holds Tryz.pinned (.plain (OpenSpec.ofChange spaceAffixSpec)) spaceAffixCard

/-- THE TIED CARD OF 'florinlaw21.SpaceAround'. -/
def spaceAroundCard : Claim7 := { stood := { row := spaceAroundRow, standIns := [], harness := (true, "0f58dcf2b98dabad266c9e72a14a9a710b8123ebaf6f02da47a523eba1b6a7b7"), looks := true }, kinds := [], alts := [], laidByText := true, laidKinds := [.data, .data, .data, .data, .sentinel, .sentinel, .pinned], laidTests := true, laidLooks := .later }
def SpaceAroundCardSaid : Prop := Claim7.holds Tryz.pinned (.plain (OpenSpec.ofChange spaceAroundSpec)) spaceAroundCard

/-- THE TIED CARD OF 'florinlaw17.LocaleLoads'. -/
def localeLoadsCard : Claim7 := { stood := { row := localeLoadsRow, standIns := [], harness := (true, "0f58dcf2b98dabad266c9e72a14a9a710b8123ebaf6f02da47a523eba1b6a7b7"), looks := true }, kinds := [], alts := [], laidByText := true, laidKinds := [.data, .data, .data, .data, .sentinel, .sentinel, .pinned], laidTests := true, laidLooks := .later }
def LocaleLoadsCardSaid : Prop := Claim7.holds Tryz.pinned (.plain (OpenSpec.ofChange localeLoadsSpec)) localeLoadsCard

/-- THE TIED CARD OF 'florinlaw22.OptionChecks'. -/
def optionChecksCard : Claim7 := { stood := { row := optionChecksRow, standIns := [], harness := (true, "0f58dcf2b98dabad266c9e72a14a9a710b8123ebaf6f02da47a523eba1b6a7b7"), looks := true }, kinds := [], alts := [], laidByText := true, laidKinds := [.data, .data, .data, .data, .sentinel, .sentinel, .pinned], laidTests := true, laidLooks := .later }
def OptionChecksCardSaid : Prop := Claim7.holds Tryz.pinned (.plain (OpenSpec.ofChange optionChecksSpec)) optionChecksCard

/-- THE TIED CARD OF 'florinlaw22.OptionBack'. -/
def optionBackCard : Claim7 := { stood := { row := optionBackRow, standIns := [], harness := (true, "0f58dcf2b98dabad266c9e72a14a9a710b8123ebaf6f02da47a523eba1b6a7b7"), looks := true }, kinds := [], alts := [], laidByText := true, laidKinds := [.data, .data, .data, .data, .sentinel, .sentinel, .pinned], laidTests := true, laidLooks := .later }
def OptionBackCardSaid : Prop := Claim7.holds Tryz.pinned (.plain (OpenSpec.ofChange optionBackSpec)) optionBackCard

/-- THE TIED CARD OF 'florinlaw22.OptionReads'. -/
def optionReadsCard : Claim7 := { stood := { row := optionReadsRow, standIns := [], harness := (true, "0f58dcf2b98dabad266c9e72a14a9a710b8123ebaf6f02da47a523eba1b6a7b7"), looks := true }, kinds := [], alts := [], laidByText := true, laidKinds := [.data, .data, .data, .data, .sentinel, .sentinel, .pinned], laidTests := true, laidLooks := .later }
def OptionReadsCardSaid : Prop := Claim7.holds Tryz.pinned (.plain (OpenSpec.ofChange optionReadsSpec)) optionReadsCard

/-- THE SECOND FORM's CARD OF 'florinlaw21.SpaceBetween'. -/
def spaceBetweenUptoCard : Claim7 := { stood := { row := spaceBetweenUptoRow, standIns := [], harness := (true, "0f58dcf2b98dabad266c9e72a14a9a710b8123ebaf6f02da47a523eba1b6a7b7"), looks := true }, kinds := [], alts := [], laidByText := true, laidKinds := [.data, .data, .data, .data, .sentinel, .sentinel, .pinned], laidTests := true, laidLooks := .later }
def SpaceBetweenUptoCardSaid : Prop := Claim7.holds Tryz.pinned (.plain (OpenSpec.upto spaceBetweenSpec)) spaceBetweenUptoCard

/-- THE SECOND FORM's CARD OF 'florinlaw21.SpaceAffix'. -/
def spaceAffixUptoCard : Claim7 := { stood := { row := spaceAffixUptoRow, standIns := [], harness := (true, "0f58dcf2b98dabad266c9e72a14a9a710b8123ebaf6f02da47a523eba1b6a7b7"), looks := true }, kinds := [], alts := [], laidByText := true, laidKinds := [.data, .data, .data, .data, .sentinel, .sentinel, .pinned], laidTests := true, laidLooks := .later }
def SpaceAffixUptoCardSaid : Prop := Claim7.holds Tryz.pinned (.plain (OpenSpec.upto spaceAffixSpec)) spaceAffixUptoCard

/-- THE SECOND FORM's CARD OF 'florinlaw21.SpaceAround'. -/
def spaceAroundUptoCard : Claim7 := { stood := { row := spaceAroundUptoRow, standIns := [], harness := (true, "0f58dcf2b98dabad266c9e72a14a9a710b8123ebaf6f02da47a523eba1b6a7b7"), looks := true }, kinds := [], alts := [], laidByText := true, laidKinds := [.data, .data, .data, .data, .sentinel, .sentinel, .pinned], laidTests := true, laidLooks := .later }
def SpaceAroundUptoCardSaid : Prop := Claim7.holds Tryz.pinned (.plain (OpenSpec.upto spaceAroundSpec)) spaceAroundUptoCard

/-- THE SECOND FORM's CARD OF 'florinlaw17.LocaleLoads'. -/
def localeLoadsUptoCard : Claim7 := { stood := { row := localeLoadsUptoRow, standIns := [], harness := (true, "0f58dcf2b98dabad266c9e72a14a9a710b8123ebaf6f02da47a523eba1b6a7b7"), looks := true }, kinds := [], alts := [], laidByText := true, laidKinds := [.data, .data, .data, .data, .sentinel, .sentinel, .pinned], laidTests := true, laidLooks := .later }
def LocaleLoadsUptoCardSaid : Prop := Claim7.holds Tryz.pinned (.plain (OpenSpec.upto localeLoadsSpec)) localeLoadsUptoCard

/-- THE SECOND FORM's CARD OF 'florinlaw22.OptionChecks'. -/
def optionChecksUptoCard : Claim7 := { stood := { row := optionChecksUptoRow, standIns := [], harness := (true, "0f58dcf2b98dabad266c9e72a14a9a710b8123ebaf6f02da47a523eba1b6a7b7"), looks := true }, kinds := [], alts := [], laidByText := true, laidKinds := [.data, .data, .data, .data, .sentinel, .sentinel, .pinned], laidTests := true, laidLooks := .later }
def OptionChecksUptoCardSaid : Prop := Claim7.holds Tryz.pinned (.plain (OpenSpec.upto optionChecksSpec)) optionChecksUptoCard

/-- THE SECOND FORM's CARD OF 'florinlaw22.OptionBack'. -/
def optionBackUptoCard : Claim7 := { stood := { row := optionBackUptoRow, standIns := [], harness := (true, "0f58dcf2b98dabad266c9e72a14a9a710b8123ebaf6f02da47a523eba1b6a7b7"), looks := true }, kinds := [], alts := [], laidByText := true, laidKinds := [.data, .data, .data, .data, .sentinel, .sentinel, .pinned], laidTests := true, laidLooks := .later }
def OptionBackUptoCardSaid : Prop := Claim7.holds Tryz.pinned (.plain (OpenSpec.upto optionBackSpec)) optionBackUptoCard

/-- THE SECOND FORM's CARD OF 'florinlaw22.OptionReads'. -/
def optionReadsUptoCard : Claim7 := { stood := { row := optionReadsUptoRow, standIns := [], harness := (true, "0f58dcf2b98dabad266c9e72a14a9a710b8123ebaf6f02da47a523eba1b6a7b7"), looks := true }, kinds := [], alts := [], laidByText := true, laidKinds := [.data, .data, .data, .data, .sentinel, .sentinel, .pinned], laidTests := true, laidLooks := .later }
def OptionReadsUptoCardSaid : Prop := Claim7.holds Tryz.pinned (.plain (OpenSpec.upto optionReadsSpec)) optionReadsUptoCard
end Rows
end Go.Proofs.YtjjppmbojcgdgaaGreatDoor
