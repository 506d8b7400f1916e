/-
  No cell of these rows narrows 'for every input' (looked for: loops, veiled, ifaces, maps, wideKeys, modest, calm, conditions, laid).
  DERIVED. THE GIVEN ROWS OF THIS SEAT. 5 by the template 'for every input the law returns true; each argument reads behind the call as it read before'; 0 by the template 'total and deterministic' (their statements: YthjomknhbfplnaaTotals.lean).
  GIVEN WITH THE SEED: the statements are not yours to turn. If you find one false, say at which input.
  Laid BY PROGRAM, IN A SANDBOX (cutbox-rows.mjs): the forced cells as the released guide's own fill.sh prints them over the translation a7b4993aaef25627… (all of the seat's roots in one cut). By AI agents, Wed Nov 11 2026. No macro, syntax, notation, axiom, sorry.
-/
import Derived.Test.YthjomknhbfplnaaChecked
import GoSem.Claim
import GoSem.ClaimJoined
import GoSem.ClaimMapViews
import Derived.JoinedTies
import Derived.KernelRfl
namespace Go.Proofs.Ythjomknhbfplnaa
/- THE CELL 'sum', in the pinned program and in every row, IS THE sha256 OF THE DUMP (.gsa) THAT YthjomknhbfplnaaProg.lean LOADS. Nothing in Lean hashes anything: it is a label: what it is worth is what the hold of that sum in a sandbox is worth. -/
noncomputable def Try.pinned : Pinned := { name := "ythjomknhbfplnaa", sum := "a7b4993aaef25627f18e50f97cd870b97ae768b293416a251cfb010cffe15a55", checked := Try.checked }
namespace Rows
def none {H : Type} : Left H := { results := [], args := [] }

/-- 'reliquarylaw16.ReelWinds': WHATEVER THE INPUT: true; the input reads as it did. -/
def reelWindsSpec : ChangeSpec := { name := "reelWinds", fn := fun _ => fun
  | [d1, d2] => { results := [.lit (.bool true)], args := [d1, d2] }
  | _ => none }
def reelWindsRow : OpenClaim := { program := "ythjomknhbfplnaa", sum := "a7b4993aaef25627f18e50f97cd870b97ae768b293416a251cfb010cffe15a55", func := "reliquary/reliquarylaw16.ReelWinds", spec := "reelWinds", inPlace := ["slices.overlaps[string]", "slices.overlaps[*reliquary/reel.tape]"], unfollowed := true, recurses := true, apart := false }
def ReelWindsSaid : Prop := reelWindsRow.holds Try.pinned (OpenSpec.ofChange reelWindsSpec)

/-- ITS FALSE NEIGHBOUR: 'it returns false'. Refute it at one input. -/
def reelWindsWrong : ChangeSpec := { name := "reelWinds", fn := fun _ => fun
  | [d1, d2] => { results := [.lit (.bool false)], args := [d1, d2] }
  | _ => none }
def ReelWindsWrongFalsely : Prop := reelWindsRow.holds Try.pinned (OpenSpec.ofChange reelWindsWrong)

/-- 'reliquarylaw16.ReelSafe': WHATEVER THE INPUT: true; the input reads as it did. -/
def reelSafeSpec : ChangeSpec := { name := "reelSafe", fn := fun _ => fun
  | [d1, d2, d3] => { results := [.lit (.bool true)], args := [d1, d2, d3] }
  | _ => none }
def reelSafeRow : OpenClaim := { program := "ythjomknhbfplnaa", sum := "a7b4993aaef25627f18e50f97cd870b97ae768b293416a251cfb010cffe15a55", func := "reliquary/reliquarylaw16.ReelSafe", spec := "reelSafe", inPlace := ["slices.overlaps[string]", "slices.overlaps[*reliquary/reel.tape]"], unfollowed := true, recurses := true, apart := false }
def ReelSafeSaid : Prop := reelSafeRow.holds Try.pinned (OpenSpec.ofChange reelSafeSpec)

/-- ITS FALSE NEIGHBOUR: 'it returns false'. Refute it at one input. -/
def reelSafeWrong : ChangeSpec := { name := "reelSafe", fn := fun _ => fun
  | [d1, d2, d3] => { results := [.lit (.bool false)], args := [d1, d2, d3] }
  | _ => none }
def ReelSafeWrongFalsely : Prop := reelSafeRow.holds Try.pinned (OpenSpec.ofChange reelSafeWrong)

/-- 'reliquarylaw16.ReelWhole': WHATEVER THE INPUT: true; the input reads as it did. -/
def reelWholeSpec : ChangeSpec := { name := "reelWhole", fn := fun _ => fun
  | [d1, d2, d3] => { results := [.lit (.bool true)], args := [d1, d2, d3] }
  | _ => none }
def reelWholeRow : OpenClaim := { program := "ythjomknhbfplnaa", sum := "a7b4993aaef25627f18e50f97cd870b97ae768b293416a251cfb010cffe15a55", func := "reliquary/reliquarylaw16.ReelWhole", spec := "reelWhole", inPlace := ["slices.overlaps[string]", "slices.overlaps[*reliquary/reel.tape]"], unfollowed := true, recurses := true, apart := false }
def ReelWholeSaid : Prop := reelWholeRow.holds Try.pinned (OpenSpec.ofChange reelWholeSpec)

/-- ITS FALSE NEIGHBOUR: 'it returns false'. Refute it at one input. -/
def reelWholeWrong : ChangeSpec := { name := "reelWhole", fn := fun _ => fun
  | [d1, d2, d3] => { results := [.lit (.bool false)], args := [d1, d2, d3] }
  | _ => none }
def ReelWholeWrongFalsely : Prop := reelWholeRow.holds Try.pinned (OpenSpec.ofChange reelWholeWrong)

/-- 'reliquarylaw16.ReelExact': WHATEVER THE INPUT: true; the input reads as it did. -/
def reelExactSpec : ChangeSpec := { name := "reelExact", fn := fun _ => fun
  | [d1, d2] => { results := [.lit (.bool true)], args := [d1, d2] }
  | _ => none }
def reelExactRow : OpenClaim := { program := "ythjomknhbfplnaa", sum := "a7b4993aaef25627f18e50f97cd870b97ae768b293416a251cfb010cffe15a55", func := "reliquary/reliquarylaw16.ReelExact", spec := "reelExact", inPlace := ["slices.overlaps[string]", "slices.overlaps[*reliquary/reel.tape]"], unfollowed := true, recurses := true, apart := false }
def ReelExactSaid : Prop := reelExactRow.holds Try.pinned (OpenSpec.ofChange reelExactSpec)

/-- ITS FALSE NEIGHBOUR: 'it returns false'. Refute it at one input. -/
def reelExactWrong : ChangeSpec := { name := "reelExact", fn := fun _ => fun
  | [d1, d2] => { results := [.lit (.bool false)], args := [d1, d2] }
  | _ => none }
def ReelExactWrongFalsely : Prop := reelExactRow.holds Try.pinned (OpenSpec.ofChange reelExactWrong)

/-- 'reliquarylaw16.ReelFull': WHATEVER THE INPUT: true; the input reads as it did. -/
def reelFullSpec : ChangeSpec := { name := "reelFull", fn := fun _ => fun
  | [d1, d2] => { results := [.lit (.bool true)], args := [d1, d2] }
  | _ => none }
def reelFullRow : OpenClaim := { program := "ythjomknhbfplnaa", sum := "a7b4993aaef25627f18e50f97cd870b97ae768b293416a251cfb010cffe15a55", func := "reliquary/reliquarylaw16.ReelFull", spec := "reelFull", inPlace := ["slices.overlaps[string]", "slices.overlaps[*reliquary/reel.tape]"], unfollowed := true, recurses := true, apart := false }
def ReelFullSaid : Prop := reelFullRow.holds Try.pinned (OpenSpec.ofChange reelFullSpec)

/-- ITS FALSE NEIGHBOUR: 'it returns false'. Refute it at one input. -/
def reelFullWrong : ChangeSpec := { name := "reelFull", fn := fun _ => fun
  | [d1, d2] => { results := [.lit (.bool false)], args := [d1, d2] }
  | _ => none }
def ReelFullWrongFalsely : Prop := reelFullRow.holds Try.pinned (OpenSpec.ofChange reelFullWrong)

/- THE SECOND FORM. 'bulk': how many values and letters a reading holds, each counted each time it is reached (what is shared counts as often as it is met; a slice's spare places count too). A statement '..UptoSaid' is the law's where the arguments, and the package variables that the reading takes, are together of bulk at most 1048576: NARROWER than '..Said'. Prove '..Said' where nothing that the law and all that it calls make is longer than what came in: it says more and counts as full. Else prove '..UptoSaid'. A law counts once. -/
mutual
def uptoBulk {H : Type} : DataW H → Nat
  | .lit (.string bytes) => bytes.length + 1
  | .lit _ => 1
  | .nil => 1
  | .ptr d => uptoBulk d + 1
  | .slice elems spare => uptoBulkAll elems + uptoBulkAll spare + 1
  | .agg parts => uptoBulkAll parts + 1
  | .iface _ d => uptoBulk d + 1
  | .map entries => uptoBulkEntries entries + 1
  | .held _ => 1
def uptoBulkAll {H : Type} : List (DataW H) → Nat
  | [] => 0
  | d :: r => uptoBulk d + uptoBulkAll r
def uptoBulkEntries {H : Type} : List (Lit × DataW H) → Nat
  | [] => 0
  | x :: r => uptoBulkEntry x + uptoBulkEntries r
def uptoBulkEntry {H : Type} : Lit × DataW H → Nat
  | (.string bytes, d) => bytes.length + uptoBulk d + 1
  | (_, d) => uptoBulk d + 1
 end
def uptoSmall : (H : Type) → List (DataW H) → Bool := fun _ ds => decide (uptoBulkAll ds ≤ 1048576)
def OpenSpec.upto (s : _root_.Go.ChangeSpec) : _root_.Go.OpenSpec := { _root_.Go.OpenSpec.ofChange s with cond := some uptoSmall }

/-- 'reliquarylaw16.ReelWinds', WHERE WHAT IT READS IS OF BULK AT MOST 1048576: true; the input reads as it did. -/
def reelWindsUptoRow : OpenClaim := { program := "ythjomknhbfplnaa", sum := "a7b4993aaef25627f18e50f97cd870b97ae768b293416a251cfb010cffe15a55", func := "reliquary/reliquarylaw16.ReelWinds", spec := "reelWinds", inPlace := ["slices.overlaps[string]", "slices.overlaps[*reliquary/reel.tape]"], unfollowed := true, recurses := true, apart := false, narrowed := true }
def ReelWindsUptoSaid : Prop := reelWindsUptoRow.holds Try.pinned (OpenSpec.upto reelWindsSpec)

/-- 'reliquarylaw16.ReelSafe', WHERE WHAT IT READS IS OF BULK AT MOST 1048576: true; the input reads as it did. -/
def reelSafeUptoRow : OpenClaim := { program := "ythjomknhbfplnaa", sum := "a7b4993aaef25627f18e50f97cd870b97ae768b293416a251cfb010cffe15a55", func := "reliquary/reliquarylaw16.ReelSafe", spec := "reelSafe", inPlace := ["slices.overlaps[string]", "slices.overlaps[*reliquary/reel.tape]"], unfollowed := true, recurses := true, apart := false, narrowed := true }
def ReelSafeUptoSaid : Prop := reelSafeUptoRow.holds Try.pinned (OpenSpec.upto reelSafeSpec)

/-- 'reliquarylaw16.ReelWhole', WHERE WHAT IT READS IS OF BULK AT MOST 1048576: true; the input reads as it did. -/
def reelWholeUptoRow : OpenClaim := { program := "ythjomknhbfplnaa", sum := "a7b4993aaef25627f18e50f97cd870b97ae768b293416a251cfb010cffe15a55", func := "reliquary/reliquarylaw16.ReelWhole", spec := "reelWhole", inPlace := ["slices.overlaps[string]", "slices.overlaps[*reliquary/reel.tape]"], unfollowed := true, recurses := true, apart := false, narrowed := true }
def ReelWholeUptoSaid : Prop := reelWholeUptoRow.holds Try.pinned (OpenSpec.upto reelWholeSpec)

/-- 'reliquarylaw16.ReelExact', WHERE WHAT IT READS IS OF BULK AT MOST 1048576: true; the input reads as it did. -/
def reelExactUptoRow : OpenClaim := { program := "ythjomknhbfplnaa", sum := "a7b4993aaef25627f18e50f97cd870b97ae768b293416a251cfb010cffe15a55", func := "reliquary/reliquarylaw16.ReelExact", spec := "reelExact", inPlace := ["slices.overlaps[string]", "slices.overlaps[*reliquary/reel.tape]"], unfollowed := true, recurses := true, apart := false, narrowed := true }
def ReelExactUptoSaid : Prop := reelExactUptoRow.holds Try.pinned (OpenSpec.upto reelExactSpec)

/-- 'reliquarylaw16.ReelFull', WHERE WHAT IT READS IS OF BULK AT MOST 1048576: true; the input reads as it did. -/
def reelFullUptoRow : OpenClaim := { program := "ythjomknhbfplnaa", sum := "a7b4993aaef25627f18e50f97cd870b97ae768b293416a251cfb010cffe15a55", func := "reliquary/reliquarylaw16.ReelFull", spec := "reelFull", inPlace := ["slices.overlaps[string]", "slices.overlaps[*reliquary/reel.tape]"], unfollowed := true, recurses := true, apart := false, narrowed := true }
def ReelFullUptoSaid : Prop := reelFullUptoRow.holds Try.pinned (OpenSpec.upto reelFullSpec)

end Rows
end Go.Proofs.Ythjomknhbfplnaa
