/-
  DERIVED. GIVEN WITH THE SEED: THE CARDS: each row of YtpbjjhpihhnomaaGreatDoorRows.lean that lists a variable, with what it lists TIED to the program's text (the seventh form; the later family's looks); each row that meets fmt, with fmt's text TOLD by the authors' own Lean function (tested against real Go, not proved from fmt's source: count such statements apart). THE CARD IS WHAT COUNTS. Prove the row's statement (the work); the ties are given (YtpbjjhpihhnomaaGreatDoorTie.lean); close each card by the builder's one call (the guide's Derived/Test/ToyasCard.lean, 'card_holds'). Laid BY PROGRAM, IN A SANDBOX (cutbox-door.mjs). By AI agents, Wed Nov 11 2026. No macro, syntax, notation, axiom, sorry.
-/
import Derived.Test.YtpbjjhpihhnomaaGreatDoorRows
import GoSem.ClaimSeven
namespace Go.Proofs.YtpbjjhpihhnomaaGreatDoor
namespace Rows

/-- THE TIED CARD OF 'florinlaw18.GroupMins'. -/
def groupMinsCard : Claim7 := { stood := { row := groupMinsRow, standIns := [], harness := (true, "48a24817cee2ea25fcacd8d4c2f04619d293d9d164808228d1d6e1fc644b1e63"), looks := true }, kinds := [], alts := [], laidByText := true, laidKinds := [.data, .data, .data, .data, .sentinel, .sentinel, .pinned], laidTests := true, laidLooks := .later }
def GroupMinsCardSaid : Prop := Claim7.holds Tryz.pinned (.plain (OpenSpec.ofChange groupMinsSpec)) groupMinsCard

/-- THE TIED CARD OF 'florinlaw18.GroupReads'. -/
def groupReadsCard : Claim7 := { stood := { row := groupReadsRow, standIns := [], harness := (true, "48a24817cee2ea25fcacd8d4c2f04619d293d9d164808228d1d6e1fc644b1e63"), looks := true }, kinds := [], alts := [], laidByText := true, laidKinds := [.data, .data, .data, .data, .sentinel, .sentinel, .pinned], laidTests := true, laidLooks := .later }
def GroupReadsCardSaid : Prop := Claim7.holds Tryz.pinned (.plain (OpenSpec.ofChange groupReadsSpec)) groupReadsCard

/-- THE TIED CARD OF 'florinlaw18.GroupWrites'. -/
def groupWritesCard : Claim7 := { stood := { row := groupWritesRow, standIns := [], harness := (true, "48a24817cee2ea25fcacd8d4c2f04619d293d9d164808228d1d6e1fc644b1e63"), looks := true }, kinds := [], alts := [], laidByText := true, laidKinds := [.data, .data, .data, .data, .sentinel, .sentinel, .pinned], laidTests := true, laidLooks := .later }
def GroupWritesCardSaid : Prop := Claim7.holds Tryz.pinned (.plain (OpenSpec.ofChange groupWritesSpec)) groupWritesCard

/-- THE TIED CARD OF 'florinlaw18.GroupSpans'. -/
def groupSpansCard : Claim7 := { stood := { row := groupSpansRow, standIns := [], harness := (true, "48a24817cee2ea25fcacd8d4c2f04619d293d9d164808228d1d6e1fc644b1e63"), looks := true }, kinds := [], alts := [], laidByText := true, laidKinds := [.data, .data, .data, .data, .sentinel, .sentinel, .pinned], laidTests := true, laidLooks := .later }
def GroupSpansCardSaid : Prop := Claim7.holds Tryz.pinned (.plain (OpenSpec.ofChange groupSpansSpec)) groupSpansCard

/-- THE TIED CARD OF 'florinlaw21.SpaceBetween'. -/
def spaceBetweenCard : Claim7 := { stood := { row := spaceBetweenRow, standIns := [], harness := (true, "48a24817cee2ea25fcacd8d4c2f04619d293d9d164808228d1d6e1fc644b1e63"), looks := true }, kinds := [], alts := [], laidByText := true, laidKinds := [.data, .data, .data, .data, .sentinel, .sentinel, .pinned], laidTests := true, laidLooks := .later }
def SpaceBetweenCardSaid : Prop := Claim7.holds Tryz.pinned (.plain (OpenSpec.ofChange spaceBetweenSpec)) spaceBetweenCard

/-- THE TIED CARD OF 'florinlaw21.SpaceAffix'. -/
def spaceAffixCard : Claim7 := { stood := { row := spaceAffixRow, standIns := [], harness := (true, "48a24817cee2ea25fcacd8d4c2f04619d293d9d164808228d1d6e1fc644b1e63"), looks := true }, kinds := [], alts := [], laidByText := true, laidKinds := [.data, .data, .data, .data, .sentinel, .sentinel, .pinned], laidTests := true, laidLooks := .later }
def SpaceAffixCardSaid : Prop := Claim7.holds Tryz.pinned (.plain (OpenSpec.ofChange spaceAffixSpec)) spaceAffixCard

/-- THE TIED CARD OF 'florinlaw21.SpaceAround'. -/
def spaceAroundCard : Claim7 := { stood := { row := spaceAroundRow, standIns := [], harness := (true, "48a24817cee2ea25fcacd8d4c2f04619d293d9d164808228d1d6e1fc644b1e63"), looks := true }, kinds := [], alts := [], laidByText := true, laidKinds := [.data, .data, .data, .data, .sentinel, .sentinel, .pinned], laidTests := true, laidLooks := .later }
def SpaceAroundCardSaid : Prop := Claim7.holds Tryz.pinned (.plain (OpenSpec.ofChange spaceAroundSpec)) spaceAroundCard

/-- THE TIED CARD OF 'florinlaw17.LocaleLoads'. -/
def localeLoadsCard : Claim7 := { stood := { row := localeLoadsRow, standIns := [], harness := (true, "48a24817cee2ea25fcacd8d4c2f04619d293d9d164808228d1d6e1fc644b1e63"), looks := true }, kinds := [], alts := [], laidByText := true, laidKinds := [.data, .data, .data, .data, .sentinel, .sentinel, .pinned], laidTests := true, laidLooks := .later }
def LocaleLoadsCardSaid : Prop := Claim7.holds Tryz.pinned (.plain (OpenSpec.ofChange localeLoadsSpec)) localeLoadsCard

/-- THE TIED CARD OF 'florinlaw17.LocaleFinds'. -/
def localeFindsCard : Claim7 := { stood := { row := localeFindsRow, standIns := [], harness := (true, "48a24817cee2ea25fcacd8d4c2f04619d293d9d164808228d1d6e1fc644b1e63"), looks := true }, kinds := [], alts := [], laidByText := true, laidKinds := [.data, .data, .data, .data, .sentinel, .sentinel, .pinned], laidTests := true, laidLooks := .later }
def LocaleFindsCardSaid : Prop := Claim7.holds Tryz.pinned (.plain (OpenSpec.ofChange localeFindsSpec)) localeFindsCard

/-- THE TIED CARD OF 'florinlaw17.LocaleCategory'. -/
def localeCategoryCard : Claim7 := { stood := { row := localeCategoryRow, standIns := [], harness := (true, "48a24817cee2ea25fcacd8d4c2f04619d293d9d164808228d1d6e1fc644b1e63"), looks := true }, kinds := [], alts := [], laidByText := true, laidKinds := [.data, .data, .data, .data, .sentinel, .sentinel, .pinned], laidTests := true, laidLooks := .later }
def LocaleCategoryCardSaid : Prop := Claim7.holds Tryz.pinned (.plain (OpenSpec.ofChange localeCategorySpec)) localeCategoryCard

/-- THE SECOND FORM's CARD OF 'florinlaw18.GroupMins'. -/
def groupMinsUptoCard : Claim7 := { stood := { row := groupMinsUptoRow, standIns := [], harness := (true, "48a24817cee2ea25fcacd8d4c2f04619d293d9d164808228d1d6e1fc644b1e63"), looks := true }, kinds := [], alts := [], laidByText := true, laidKinds := [.data, .data, .data, .data, .sentinel, .sentinel, .pinned], laidTests := true, laidLooks := .later }
def GroupMinsUptoCardSaid : Prop := Claim7.holds Tryz.pinned (.plain (OpenSpec.upto groupMinsSpec)) groupMinsUptoCard

/-- THE SECOND FORM's CARD OF 'florinlaw18.GroupReads'. -/
def groupReadsUptoCard : Claim7 := { stood := { row := groupReadsUptoRow, standIns := [], harness := (true, "48a24817cee2ea25fcacd8d4c2f04619d293d9d164808228d1d6e1fc644b1e63"), looks := true }, kinds := [], alts := [], laidByText := true, laidKinds := [.data, .data, .data, .data, .sentinel, .sentinel, .pinned], laidTests := true, laidLooks := .later }
def GroupReadsUptoCardSaid : Prop := Claim7.holds Tryz.pinned (.plain (OpenSpec.upto groupReadsSpec)) groupReadsUptoCard

/-- THE SECOND FORM's CARD OF 'florinlaw18.GroupWrites'. -/
def groupWritesUptoCard : Claim7 := { stood := { row := groupWritesUptoRow, standIns := [], harness := (true, "48a24817cee2ea25fcacd8d4c2f04619d293d9d164808228d1d6e1fc644b1e63"), looks := true }, kinds := [], alts := [], laidByText := true, laidKinds := [.data, .data, .data, .data, .sentinel, .sentinel, .pinned], laidTests := true, laidLooks := .later }
def GroupWritesUptoCardSaid : Prop := Claim7.holds Tryz.pinned (.plain (OpenSpec.upto groupWritesSpec)) groupWritesUptoCard

/-- THE SECOND FORM's CARD OF 'florinlaw18.GroupSpans'. -/
def groupSpansUptoCard : Claim7 := { stood := { row := groupSpansUptoRow, standIns := [], harness := (true, "48a24817cee2ea25fcacd8d4c2f04619d293d9d164808228d1d6e1fc644b1e63"), looks := true }, kinds := [], alts := [], laidByText := true, laidKinds := [.data, .data, .data, .data, .sentinel, .sentinel, .pinned], laidTests := true, laidLooks := .later }
def GroupSpansUptoCardSaid : Prop := Claim7.holds Tryz.pinned (.plain (OpenSpec.upto groupSpansSpec)) groupSpansUptoCard

/-- THE SECOND FORM's CARD OF 'florinlaw21.SpaceBetween'. -/
def spaceBetweenUptoCard : Claim7 := { stood := { row := spaceBetweenUptoRow, standIns := [], harness := (true, "48a24817cee2ea25fcacd8d4c2f04619d293d9d164808228d1d6e1fc644b1e63"), looks := true }, kinds := [], alts := [], laidByText := true, laidKinds := [.data, .data, .data, .data, .sentinel, .sentinel, .pinned], laidTests := true, laidLooks := .later }
def SpaceBetweenUptoCardSaid : Prop := Claim7.holds Tryz.pinned (.plain (OpenSpec.upto spaceBetweenSpec)) spaceBetweenUptoCard

/-- THE SECOND FORM's CARD OF 'florinlaw21.SpaceAffix'. -/
def spaceAffixUptoCard : Claim7 := { stood := { row := spaceAffixUptoRow, standIns := [], harness := (true, "48a24817cee2ea25fcacd8d4c2f04619d293d9d164808228d1d6e1fc644b1e63"), looks := true }, kinds := [], alts := [], laidByText := true, laidKinds := [.data, .data, .data, .data, .sentinel, .sentinel, .pinned], laidTests := true, laidLooks := .later }
def SpaceAffixUptoCardSaid : Prop := Claim7.holds Tryz.pinned (.plain (OpenSpec.upto spaceAffixSpec)) spaceAffixUptoCard

/-- THE SECOND FORM's CARD OF 'florinlaw21.SpaceAround'. -/
def spaceAroundUptoCard : Claim7 := { stood := { row := spaceAroundUptoRow, standIns := [], harness := (true, "48a24817cee2ea25fcacd8d4c2f04619d293d9d164808228d1d6e1fc644b1e63"), looks := true }, kinds := [], alts := [], laidByText := true, laidKinds := [.data, .data, .data, .data, .sentinel, .sentinel, .pinned], laidTests := true, laidLooks := .later }
def SpaceAroundUptoCardSaid : Prop := Claim7.holds Tryz.pinned (.plain (OpenSpec.upto spaceAroundSpec)) spaceAroundUptoCard

/-- THE SECOND FORM's CARD OF 'florinlaw17.LocaleLoads'. -/
def localeLoadsUptoCard : Claim7 := { stood := { row := localeLoadsUptoRow, standIns := [], harness := (true, "48a24817cee2ea25fcacd8d4c2f04619d293d9d164808228d1d6e1fc644b1e63"), looks := true }, kinds := [], alts := [], laidByText := true, laidKinds := [.data, .data, .data, .data, .sentinel, .sentinel, .pinned], laidTests := true, laidLooks := .later }
def LocaleLoadsUptoCardSaid : Prop := Claim7.holds Tryz.pinned (.plain (OpenSpec.upto localeLoadsSpec)) localeLoadsUptoCard

/-- THE SECOND FORM's CARD OF 'florinlaw17.LocaleFinds'. -/
def localeFindsUptoCard : Claim7 := { stood := { row := localeFindsUptoRow, standIns := [], harness := (true, "48a24817cee2ea25fcacd8d4c2f04619d293d9d164808228d1d6e1fc644b1e63"), looks := true }, kinds := [], alts := [], laidByText := true, laidKinds := [.data, .data, .data, .data, .sentinel, .sentinel, .pinned], laidTests := true, laidLooks := .later }
def LocaleFindsUptoCardSaid : Prop := Claim7.holds Tryz.pinned (.plain (OpenSpec.upto localeFindsSpec)) localeFindsUptoCard

/-- THE SECOND FORM's CARD OF 'florinlaw17.LocaleCategory'. -/
def localeCategoryUptoCard : Claim7 := { stood := { row := localeCategoryUptoRow, standIns := [], harness := (true, "48a24817cee2ea25fcacd8d4c2f04619d293d9d164808228d1d6e1fc644b1e63"), looks := true }, kinds := [], alts := [], laidByText := true, laidKinds := [.data, .data, .data, .data, .sentinel, .sentinel, .pinned], laidTests := true, laidLooks := .later }
def LocaleCategoryUptoCardSaid : Prop := Claim7.holds Tryz.pinned (.plain (OpenSpec.upto localeCategorySpec)) localeCategoryUptoCard
end Rows
end Go.Proofs.YtpbjjhpihhnomaaGreatDoor
