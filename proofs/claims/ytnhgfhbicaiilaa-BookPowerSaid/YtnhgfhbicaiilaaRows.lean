/-
  No cell of these rows narrows 'for every input' (looked for: loops, veiled, ifaces, maps, wideKeys, modest, calm, conditions, laid).
  DERIVED. THE GIVEN ROWS OF THIS SEAT. 3 by the template 'for every input the law returns true; each argument reads behind the call as it read before'; 0 by the template 'total and deterministic' (their statements: YtnhgfhbicaiilaaTotals.lean).
  GIVEN WITH THE SEED: the statements are not yours to turn. If you find one false, say at which input.
  Laid BY PROGRAM, IN A SANDBOX (cutbox-rows.mjs): the forced cells as the released guide's own fill.sh prints them over the translation 467e4e2d5c99e677… (all of the seat's roots in one cut). By AI agents, Wed Nov 11 2026. No macro, syntax, notation, axiom, sorry.
-/
import Derived.Test.YtnhgfhbicaiilaaChecked
import GoSem.Claim
import GoSem.ClaimJoined
import GoSem.ClaimMapViews
import Derived.JoinedTies
import Derived.KernelRfl
namespace Go.Proofs.Ytnhgfhbicaiilaa
/- THE CELL 'sum', in the pinned program and in every row, IS THE sha256 OF THE DUMP (.gsa) THAT YtnhgfhbicaiilaaProg.lean LOADS. Nothing in Lean hashes anything: it is a label: what it is worth is what the hold of that sum in a sandbox is worth. -/
noncomputable def Try.pinned : Pinned := { name := "ytnhgfhbicaiilaa", sum := "467e4e2d5c99e677bc130b251eefb9afdefbc520ee87b8b8798cad415cd03f7b", checked := Try.checked }
namespace Rows
def none {H : Type} : Left H := { results := [], args := [] }

/-- 'reliquarylaw17.BookGoes': WHATEVER THE INPUT: true; the input reads as it did. -/
def bookGoesSpec : ChangeSpec := { name := "bookGoes", fn := fun _ => fun
  | [d1, d2, d3] => { results := [.lit (.bool true)], args := [d1, d2, d3] }
  | _ => none }
def bookGoesRow : OpenClaim := { program := "ytnhgfhbicaiilaa", sum := "467e4e2d5c99e677bc130b251eefb9afdefbc520ee87b8b8798cad415cd03f7b", func := "reliquary/reliquarylaw17.BookGoes", spec := "bookGoes", inPlace := ["internal/abi.NoEscape", "slices.overlaps[string]", "slices.overlaps[*reliquary/reel.tape]"], unfollowed := true, recurses := true, apart := false }
def BookGoesSaid : Prop := bookGoesRow.holds Try.pinned (OpenSpec.ofChange bookGoesSpec)

/-- ITS FALSE NEIGHBOUR: 'it returns false'. Refute it at one input. -/
def bookGoesWrong : ChangeSpec := { name := "bookGoes", fn := fun _ => fun
  | [d1, d2, d3] => { results := [.lit (.bool false)], args := [d1, d2, d3] }
  | _ => none }
def BookGoesWrongFalsely : Prop := bookGoesRow.holds Try.pinned (OpenSpec.ofChange bookGoesWrong)

/-- 'reliquarylaw17.BookSpoilt': WHATEVER THE INPUT: true; the input reads as it did. -/
def bookSpoiltSpec : ChangeSpec := { name := "bookSpoilt", fn := fun _ => fun
  | [d1, d2, d3] => { results := [.lit (.bool true)], args := [d1, d2, d3] }
  | _ => none }
def bookSpoiltRow : OpenClaim := { program := "ytnhgfhbicaiilaa", sum := "467e4e2d5c99e677bc130b251eefb9afdefbc520ee87b8b8798cad415cd03f7b", func := "reliquary/reliquarylaw17.BookSpoilt", spec := "bookSpoilt", inPlace := ["internal/abi.NoEscape", "slices.overlaps[string]", "slices.overlaps[*reliquary/reel.tape]"], unfollowed := true, recurses := true, apart := false }
def BookSpoiltSaid : Prop := bookSpoiltRow.holds Try.pinned (OpenSpec.ofChange bookSpoiltSpec)

/-- ITS FALSE NEIGHBOUR: 'it returns false'. Refute it at one input. -/
def bookSpoiltWrong : ChangeSpec := { name := "bookSpoilt", fn := fun _ => fun
  | [d1, d2, d3] => { results := [.lit (.bool false)], args := [d1, d2, d3] }
  | _ => none }
def BookSpoiltWrongFalsely : Prop := bookSpoiltRow.holds Try.pinned (OpenSpec.ofChange bookSpoiltWrong)

/-- 'reliquarylaw17.BookPower': WHATEVER THE INPUT: true; the input reads as it did. -/
def bookPowerSpec : ChangeSpec := { name := "bookPower", fn := fun _ => fun
  | [d1, d2] => { results := [.lit (.bool true)], args := [d1, d2] }
  | _ => none }
def bookPowerRow : OpenClaim := { program := "ytnhgfhbicaiilaa", sum := "467e4e2d5c99e677bc130b251eefb9afdefbc520ee87b8b8798cad415cd03f7b", func := "reliquary/reliquarylaw17.BookPower", spec := "bookPower", inPlace := ["internal/abi.NoEscape", "slices.overlaps[string]", "slices.overlaps[*reliquary/reel.tape]"], unfollowed := true, recurses := true, apart := false }
def BookPowerSaid : Prop := bookPowerRow.holds Try.pinned (OpenSpec.ofChange bookPowerSpec)

/-- ITS FALSE NEIGHBOUR: 'it returns false'. Refute it at one input. -/
def bookPowerWrong : ChangeSpec := { name := "bookPower", fn := fun _ => fun
  | [d1, d2] => { results := [.lit (.bool false)], args := [d1, d2] }
  | _ => none }
def BookPowerWrongFalsely : Prop := bookPowerRow.holds Try.pinned (OpenSpec.ofChange bookPowerWrong)

/- THE SECOND FORM. 'bulk': how many values and letters a reading holds, each counted each time it is reached (what is shared counts as often as it is met; a slice's spare places count too). A statement '..UptoSaid' is the law's where the arguments, and the package variables that the reading takes, are together of bulk at most 1048576: NARROWER than '..Said'. Prove '..Said' where nothing that the law and all that it calls make is longer than what came in: it says more and counts as full. Else prove '..UptoSaid'. A law counts once. -/
mutual
def uptoBulk {H : Type} : DataW H → Nat
  | .lit (.string bytes) => bytes.length + 1
  | .lit _ => 1
  | .nil => 1
  | .ptr d => uptoBulk d + 1
  | .slice elems spare => uptoBulkAll elems + uptoBulkAll spare + 1
  | .agg parts => uptoBulkAll parts + 1
  | .iface _ d => uptoBulk d + 1
  | .map entries => uptoBulkEntries entries + 1
  | .held _ => 1
def uptoBulkAll {H : Type} : List (DataW H) → Nat
  | [] => 0
  | d :: r => uptoBulk d + uptoBulkAll r
def uptoBulkEntries {H : Type} : List (Lit × DataW H) → Nat
  | [] => 0
  | x :: r => uptoBulkEntry x + uptoBulkEntries r
def uptoBulkEntry {H : Type} : Lit × DataW H → Nat
  | (.string bytes, d) => bytes.length + uptoBulk d + 1
  | (_, d) => uptoBulk d + 1
 end
def uptoSmall : (H : Type) → List (DataW H) → Bool := fun _ ds => decide (uptoBulkAll ds ≤ 1048576)
def OpenSpec.upto (s : _root_.Go.ChangeSpec) : _root_.Go.OpenSpec := { _root_.Go.OpenSpec.ofChange s with cond := some uptoSmall }

/-- 'reliquarylaw17.BookGoes', WHERE WHAT IT READS IS OF BULK AT MOST 1048576: true; the input reads as it did. -/
def bookGoesUptoRow : OpenClaim := { program := "ytnhgfhbicaiilaa", sum := "467e4e2d5c99e677bc130b251eefb9afdefbc520ee87b8b8798cad415cd03f7b", func := "reliquary/reliquarylaw17.BookGoes", spec := "bookGoes", inPlace := ["internal/abi.NoEscape", "slices.overlaps[string]", "slices.overlaps[*reliquary/reel.tape]"], unfollowed := true, recurses := true, apart := false, narrowed := true }
def BookGoesUptoSaid : Prop := bookGoesUptoRow.holds Try.pinned (OpenSpec.upto bookGoesSpec)

/-- 'reliquarylaw17.BookSpoilt', WHERE WHAT IT READS IS OF BULK AT MOST 1048576: true; the input reads as it did. -/
def bookSpoiltUptoRow : OpenClaim := { program := "ytnhgfhbicaiilaa", sum := "467e4e2d5c99e677bc130b251eefb9afdefbc520ee87b8b8798cad415cd03f7b", func := "reliquary/reliquarylaw17.BookSpoilt", spec := "bookSpoilt", inPlace := ["internal/abi.NoEscape", "slices.overlaps[string]", "slices.overlaps[*reliquary/reel.tape]"], unfollowed := true, recurses := true, apart := false, narrowed := true }
def BookSpoiltUptoSaid : Prop := bookSpoiltUptoRow.holds Try.pinned (OpenSpec.upto bookSpoiltSpec)

/-- 'reliquarylaw17.BookPower', WHERE WHAT IT READS IS OF BULK AT MOST 1048576: true; the input reads as it did. -/
def bookPowerUptoRow : OpenClaim := { program := "ytnhgfhbicaiilaa", sum := "467e4e2d5c99e677bc130b251eefb9afdefbc520ee87b8b8798cad415cd03f7b", func := "reliquary/reliquarylaw17.BookPower", spec := "bookPower", inPlace := ["internal/abi.NoEscape", "slices.overlaps[string]", "slices.overlaps[*reliquary/reel.tape]"], unfollowed := true, recurses := true, apart := false, narrowed := true }
def BookPowerUptoSaid : Prop := bookPowerUptoRow.holds Try.pinned (OpenSpec.upto bookPowerSpec)

end Rows
end Go.Proofs.Ytnhgfhbicaiilaa
