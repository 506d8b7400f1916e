/-
  DERIVED. GIVEN WITH THE SEED: THE CARDS: each row of YtlenfiiocmchdaaGreatDoorRows.lean that lists a variable, with what it lists TIED to the program's text (the seventh form; the later family's looks); each row that meets fmt, with fmt's text TOLD by the authors' own Lean function (tested against real Go, not proved from fmt's source: count such statements apart). THE CARD IS WHAT COUNTS. Prove the row's statement (the work); the ties are given (YtlenfiiocmchdaaGreatDoorTie.lean); close each card by the builder's one call (the guide's Derived/Test/ToyasCard.lean, 'card_holds'). Laid BY PROGRAM, IN A SANDBOX (cutbox-door.mjs). By AI agents, Wed Nov 11 2026. No macro, syntax, notation, axiom, sorry.
-/
import Derived.Test.YtlenfiiocmchdaaGreatDoorRows
import GoSem.ClaimSeven
namespace Go.Proofs.YtlenfiiocmchdaaGreatDoor
namespace Rows

/-- THE TIED CARD OF 'reliquarylaw15.SnapLists'. -/
def snapListsCard : Claim7 := { stood := { row := snapListsRow, standIns := [], harness := (true, "2b654a933ceb9b00773c5c66f9906ea274687fbc401cfbf0e3248b4066a269d3"), looks := false }, kinds := [], alts := [], laidByText := true, laidKinds := [.data, .pinned], laidTests := true, laidLooks := .later }
def SnapListsCardSaid : Prop := Claim7.holds Tryz.pinned (.plain (OpenSpec.ofChange snapListsSpec)) snapListsCard

/-- THE TIED CARD OF 'reliquarylaw15.SnapTells'. -/
def snapTellsCard : Claim7 := { stood := { row := snapTellsRow, standIns := [], harness := (true, "2b654a933ceb9b00773c5c66f9906ea274687fbc401cfbf0e3248b4066a269d3"), looks := false }, kinds := [], alts := [], laidByText := true, laidKinds := [.data, .pinned], laidTests := true, laidLooks := .later }
def SnapTellsCardSaid : Prop := Claim7.holds Tryz.pinned (.plain (OpenSpec.ofChange snapTellsSpec)) snapTellsCard

/-- THE TIED CARD OF 'reliquarylaw15.SnapSame'. -/
def snapSameCard : Claim7 := { stood := { row := snapSameRow, standIns := [], harness := (true, "2b654a933ceb9b00773c5c66f9906ea274687fbc401cfbf0e3248b4066a269d3"), looks := false }, kinds := [], alts := [], laidByText := true, laidKinds := [.data, .pinned], laidTests := true, laidLooks := .later }
def SnapSameCardSaid : Prop := Claim7.holds Tryz.pinned (.plain (OpenSpec.ofChange snapSameSpec)) snapSameCard

/-- THE TIED CARD OF 'reliquarylaw15.SnapFolders'. -/
def snapFoldersCard : Claim7 := { stood := { row := snapFoldersRow, standIns := [], harness := (true, "2b654a933ceb9b00773c5c66f9906ea274687fbc401cfbf0e3248b4066a269d3"), looks := false }, kinds := [], alts := [], laidByText := true, laidKinds := [.data, .pinned], laidTests := true, laidLooks := .later }
def SnapFoldersCardSaid : Prop := Claim7.holds Tryz.pinned (.plain (OpenSpec.ofChange snapFoldersSpec)) snapFoldersCard

/-- THE TIED CARD OF 'reliquarylaw15.SnapDiffs'. -/
def snapDiffsCard : Claim7 := { stood := { row := snapDiffsRow, standIns := [], harness := (true, "2b654a933ceb9b00773c5c66f9906ea274687fbc401cfbf0e3248b4066a269d3"), looks := false }, kinds := [], alts := [], laidByText := true, laidKinds := [.data, .pinned], laidTests := true, laidLooks := .later }
def SnapDiffsCardSaid : Prop := Claim7.holds Tryz.pinned (.plain (OpenSpec.ofChange snapDiffsSpec)) snapDiffsCard

/-- THE TIED CARD OF 'reliquarylaw15.SnapBack'. -/
def snapBackCard : Claim7 := { stood := { row := snapBackRow, standIns := [], harness := (true, "2b654a933ceb9b00773c5c66f9906ea274687fbc401cfbf0e3248b4066a269d3"), looks := false }, kinds := [], alts := [], laidByText := true, laidKinds := [.data, .pinned], laidTests := true, laidLooks := .later }
def SnapBackCardSaid : Prop := Claim7.holds Tryz.pinned (.plain (OpenSpec.ofChange snapBackSpec)) snapBackCard

/-- THE TIED CARD OF 'reliquarylaw15.SnapHistory'. -/
def snapHistoryCard : Claim7 := { stood := { row := snapHistoryRow, standIns := [], harness := (true, "2b654a933ceb9b00773c5c66f9906ea274687fbc401cfbf0e3248b4066a269d3"), looks := false }, kinds := [], alts := [], laidByText := true, laidKinds := [.data, .pinned], laidTests := true, laidLooks := .later }
def SnapHistoryCardSaid : Prop := Claim7.holds Tryz.pinned (.plain (OpenSpec.ofChange snapHistorySpec)) snapHistoryCard

/-- THE SECOND FORM's CARD OF 'reliquarylaw15.SnapLists'. -/
def snapListsUptoCard : Claim7 := { stood := { row := snapListsUptoRow, standIns := [], harness := (true, "2b654a933ceb9b00773c5c66f9906ea274687fbc401cfbf0e3248b4066a269d3"), looks := false }, kinds := [], alts := [], laidByText := true, laidKinds := [.data, .pinned], laidTests := true, laidLooks := .later }
def SnapListsUptoCardSaid : Prop := Claim7.holds Tryz.pinned (.plain (OpenSpec.upto snapListsSpec)) snapListsUptoCard

/-- THE SECOND FORM's CARD OF 'reliquarylaw15.SnapTells'. -/
def snapTellsUptoCard : Claim7 := { stood := { row := snapTellsUptoRow, standIns := [], harness := (true, "2b654a933ceb9b00773c5c66f9906ea274687fbc401cfbf0e3248b4066a269d3"), looks := false }, kinds := [], alts := [], laidByText := true, laidKinds := [.data, .pinned], laidTests := true, laidLooks := .later }
def SnapTellsUptoCardSaid : Prop := Claim7.holds Tryz.pinned (.plain (OpenSpec.upto snapTellsSpec)) snapTellsUptoCard

/-- THE SECOND FORM's CARD OF 'reliquarylaw15.SnapSame'. -/
def snapSameUptoCard : Claim7 := { stood := { row := snapSameUptoRow, standIns := [], harness := (true, "2b654a933ceb9b00773c5c66f9906ea274687fbc401cfbf0e3248b4066a269d3"), looks := false }, kinds := [], alts := [], laidByText := true, laidKinds := [.data, .pinned], laidTests := true, laidLooks := .later }
def SnapSameUptoCardSaid : Prop := Claim7.holds Tryz.pinned (.plain (OpenSpec.upto snapSameSpec)) snapSameUptoCard

/-- THE SECOND FORM's CARD OF 'reliquarylaw15.SnapFolders'. -/
def snapFoldersUptoCard : Claim7 := { stood := { row := snapFoldersUptoRow, standIns := [], harness := (true, "2b654a933ceb9b00773c5c66f9906ea274687fbc401cfbf0e3248b4066a269d3"), looks := false }, kinds := [], alts := [], laidByText := true, laidKinds := [.data, .pinned], laidTests := true, laidLooks := .later }
def SnapFoldersUptoCardSaid : Prop := Claim7.holds Tryz.pinned (.plain (OpenSpec.upto snapFoldersSpec)) snapFoldersUptoCard

/-- THE SECOND FORM's CARD OF 'reliquarylaw15.SnapDiffs'. -/
def snapDiffsUptoCard : Claim7 := { stood := { row := snapDiffsUptoRow, standIns := [], harness := (true, "2b654a933ceb9b00773c5c66f9906ea274687fbc401cfbf0e3248b4066a269d3"), looks := false }, kinds := [], alts := [], laidByText := true, laidKinds := [.data, .pinned], laidTests := true, laidLooks := .later }
def SnapDiffsUptoCardSaid : Prop := Claim7.holds Tryz.pinned (.plain (OpenSpec.upto snapDiffsSpec)) snapDiffsUptoCard

/-- THE SECOND FORM's CARD OF 'reliquarylaw15.SnapBack'. -/
def snapBackUptoCard : Claim7 := { stood := { row := snapBackUptoRow, standIns := [], harness := (true, "2b654a933ceb9b00773c5c66f9906ea274687fbc401cfbf0e3248b4066a269d3"), looks := false }, kinds := [], alts := [], laidByText := true, laidKinds := [.data, .pinned], laidTests := true, laidLooks := .later }
def SnapBackUptoCardSaid : Prop := Claim7.holds Tryz.pinned (.plain (OpenSpec.upto snapBackSpec)) snapBackUptoCard

/-- THE SECOND FORM's CARD OF 'reliquarylaw15.SnapHistory'. -/
def snapHistoryUptoCard : Claim7 := { stood := { row := snapHistoryUptoRow, standIns := [], harness := (true, "2b654a933ceb9b00773c5c66f9906ea274687fbc401cfbf0e3248b4066a269d3"), looks := false }, kinds := [], alts := [], laidByText := true, laidKinds := [.data, .pinned], laidTests := true, laidLooks := .later }
def SnapHistoryUptoCardSaid : Prop := Claim7.holds Tryz.pinned (.plain (OpenSpec.upto snapHistorySpec)) snapHistoryUptoCard
end Rows
end Go.Proofs.YtlenfiiocmchdaaGreatDoor
