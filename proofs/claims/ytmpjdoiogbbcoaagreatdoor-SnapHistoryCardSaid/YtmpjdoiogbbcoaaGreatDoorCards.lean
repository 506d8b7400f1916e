/-
  DERIVED. GIVEN WITH THE SEED: THE CARDS: each row of YtmpjdoiogbbcoaaGreatDoorRows.lean that lists a variable, with what it lists TIED to the program's text (the seventh form; the later family's looks); each row that meets fmt, with fmt's text TOLD by the authors' own Lean function (tested against real Go, not proved from fmt's source: count such statements apart). THE CARD IS WHAT COUNTS. Prove the row's statement (the work); the ties are given (YtmpjdoiogbbcoaaGreatDoorTie.lean); close each card by the builder's one call (the guide's Derived/Test/ToyasCard.lean, 'card_holds'). Laid BY PROGRAM, IN A SANDBOX (cutbox-door.mjs). By AI agents, Wed Nov 11 2026. No macro, syntax, notation, axiom, sorry.
-/
import Derived.Test.YtmpjdoiogbbcoaaGreatDoorRows
import GoSem.ClaimSeven
namespace Go.Proofs.YtmpjdoiogbbcoaaGreatDoor
namespace Rows

/-- THE TIED CARD OF 'reliquarylaw15.SnapTells'. -/
def snapTellsCard : Claim7 := { stood := { row := snapTellsRow, standIns := [], harness := (true, "39958ef1f4134388249552cf7ae8999702ebeb6911b159a28405171559012f99"), looks := false }, kinds := [], alts := [], laidByText := true, laidKinds := [.data, .pinned], laidTests := true, laidLooks := .later }
def SnapTellsCardSaid : Prop := Claim7.holds Tryz.pinned (.plain (OpenSpec.ofChange snapTellsSpec)) snapTellsCard

/-- THE TIED CARD OF 'reliquarylaw15.SnapHistory'. -/
def snapHistoryCard : Claim7 := { stood := { row := snapHistoryRow, standIns := [], harness := (true, "39958ef1f4134388249552cf7ae8999702ebeb6911b159a28405171559012f99"), looks := false }, kinds := [], alts := [], laidByText := true, laidKinds := [.data, .pinned], laidTests := true, laidLooks := .later }
def SnapHistoryCardSaid : Prop := Claim7.holds Tryz.pinned (.plain (OpenSpec.ofChange snapHistorySpec)) snapHistoryCard

/-- THE SECOND FORM's CARD OF 'reliquarylaw15.SnapTells'. -/
def snapTellsUptoCard : Claim7 := { stood := { row := snapTellsUptoRow, standIns := [], harness := (true, "39958ef1f4134388249552cf7ae8999702ebeb6911b159a28405171559012f99"), looks := false }, kinds := [], alts := [], laidByText := true, laidKinds := [.data, .pinned], laidTests := true, laidLooks := .later }
def SnapTellsUptoCardSaid : Prop := Claim7.holds Tryz.pinned (.plain (OpenSpec.upto snapTellsSpec)) snapTellsUptoCard

/-- THE SECOND FORM's CARD OF 'reliquarylaw15.SnapHistory'. -/
def snapHistoryUptoCard : Claim7 := { stood := { row := snapHistoryUptoRow, standIns := [], harness := (true, "39958ef1f4134388249552cf7ae8999702ebeb6911b159a28405171559012f99"), looks := false }, kinds := [], alts := [], laidByText := true, laidKinds := [.data, .pinned], laidTests := true, laidLooks := .later }
def SnapHistoryUptoCardSaid : Prop := Claim7.holds Tryz.pinned (.plain (OpenSpec.upto snapHistorySpec)) snapHistoryUptoCard
end Rows
end Go.Proofs.YtmpjdoiogbbcoaaGreatDoor
