/-
  No cell of these rows narrows 'for every input' (looked for: loops, veiled, ifaces, maps, wideKeys, modest, calm, conditions, laid).
  DERIVED. THE GIVEN ROWS OF THIS SEAT. 6 by the template 'for every input the law returns true; each argument reads behind the call as it read before'; 0 by the template 'total and deterministic' (their statements: YtcglkhcgnafegaaTotals.lean).
  GIVEN WITH THE SEED: the statements are not yours to turn. If you find one false, say at which input.
  Laid BY PROGRAM, IN A SANDBOX (cutbox-rows.mjs): the forced cells as the released guide's own fill.sh prints them over the translation b9ba3decf4a6870c… (all of the seat's roots in one cut). By AI agents, Wed Nov 11 2026. No macro, syntax, notation, axiom, sorry.
-/
import Derived.Test.YtcglkhcgnafegaaChecked
import GoSem.Claim
import GoSem.ClaimJoined
import GoSem.ClaimMapViews
import Derived.JoinedTies
import Derived.KernelRfl
namespace Go.Proofs.Ytcglkhcgnafegaa
/- THE CELL 'sum', in the pinned program and in every row, IS THE sha256 OF THE DUMP (.gsa) THAT YtcglkhcgnafegaaProg.lean LOADS. Nothing in Lean hashes anything: it is a label: what it is worth is what the hold of that sum in a sandbox is worth. -/
noncomputable def Try.pinned : Pinned := { name := "ytcglkhcgnafegaa", sum := "b9ba3decf4a6870cb23cc8953dbfee4003ac2be088d158c6f7e5f67e2678cc93", checked := Try.checked }
namespace Rows
def none {H : Type} : Left H := { results := [], args := [] }

/-- 'reliquarylaw03.IdentFinds': WHATEVER THE INPUT: true; the input reads as it did. -/
def identFindsSpec : ChangeSpec := { name := "identFinds", fn := fun _ => fun
  | [d1, d2, d3] => { results := [.lit (.bool true)], args := [d1, d2, d3] }
  | _ => none }
def identFindsRow : OpenClaim := { program := "ytcglkhcgnafegaa", sum := "b9ba3decf4a6870cb23cc8953dbfee4003ac2be088d158c6f7e5f67e2678cc93", func := "reliquary/reliquarylaw03.IdentFinds", spec := "identFinds", inPlace := ["internal/bytealg.IndexByteString", "internal/bytealg.IndexString", "internal/abi.NoEscape"], unfollowed := true, recurses := true, named := ["internal/bytealg.MaxLen"], apart := false }
def IdentFindsSaid : Prop := identFindsRow.holds Try.pinned (OpenSpec.ofChange identFindsSpec)

/-- ITS FALSE NEIGHBOUR: 'it returns false'. Refute it at one input. -/
def identFindsWrong : ChangeSpec := { name := "identFinds", fn := fun _ => fun
  | [d1, d2, d3] => { results := [.lit (.bool false)], args := [d1, d2, d3] }
  | _ => none }
def IdentFindsWrongFalsely : Prop := identFindsRow.holds Try.pinned (OpenSpec.ofChange identFindsWrong)

/-- 'reliquarylaw03.IdentShares': WHATEVER THE INPUT: true; the input reads as it did. -/
def identSharesSpec : ChangeSpec := { name := "identShares", fn := fun _ => fun
  | [d1, d2, d3] => { results := [.lit (.bool true)], args := [d1, d2, d3] }
  | _ => none }
def identSharesRow : OpenClaim := { program := "ytcglkhcgnafegaa", sum := "b9ba3decf4a6870cb23cc8953dbfee4003ac2be088d158c6f7e5f67e2678cc93", func := "reliquary/reliquarylaw03.IdentShares", spec := "identShares", inPlace := ["internal/bytealg.IndexByteString", "internal/bytealg.IndexString", "internal/abi.NoEscape"], unfollowed := true, recurses := true, named := ["internal/bytealg.MaxLen"], apart := false }
def IdentSharesSaid : Prop := identSharesRow.holds Try.pinned (OpenSpec.ofChange identSharesSpec)

/-- ITS FALSE NEIGHBOUR: 'it returns false'. Refute it at one input. -/
def identSharesWrong : ChangeSpec := { name := "identShares", fn := fun _ => fun
  | [d1, d2, d3] => { results := [.lit (.bool false)], args := [d1, d2, d3] }
  | _ => none }
def IdentSharesWrongFalsely : Prop := identSharesRow.holds Try.pinned (OpenSpec.ofChange identSharesWrong)

/-- 'reliquarylaw03.IdentShort': WHATEVER THE INPUT: true; the input reads as it did. -/
def identShortSpec : ChangeSpec := { name := "identShort", fn := fun _ => fun
  | [d1, d2] => { results := [.lit (.bool true)], args := [d1, d2] }
  | _ => none }
def identShortRow : OpenClaim := { program := "ytcglkhcgnafegaa", sum := "b9ba3decf4a6870cb23cc8953dbfee4003ac2be088d158c6f7e5f67e2678cc93", func := "reliquary/reliquarylaw03.IdentShort", spec := "identShort", inPlace := ["internal/bytealg.IndexByteString", "internal/bytealg.IndexString", "internal/abi.NoEscape"], unfollowed := true, recurses := true, named := ["internal/bytealg.MaxLen"], apart := false }
def IdentShortSaid : Prop := identShortRow.holds Try.pinned (OpenSpec.ofChange identShortSpec)

/-- ITS FALSE NEIGHBOUR: 'it returns false'. Refute it at one input. -/
def identShortWrong : ChangeSpec := { name := "identShort", fn := fun _ => fun
  | [d1, d2] => { results := [.lit (.bool false)], args := [d1, d2] }
  | _ => none }
def IdentShortWrongFalsely : Prop := identShortRow.holds Try.pinned (OpenSpec.ofChange identShortWrong)

/-- 'reliquarylaw03.IdentDigits': WHATEVER THE INPUT: true; the input reads as it did. -/
def identDigitsSpec : ChangeSpec := { name := "identDigits", fn := fun _ => fun
  | [d1, d2] => { results := [.lit (.bool true)], args := [d1, d2] }
  | _ => none }
def identDigitsRow : OpenClaim := { program := "ytcglkhcgnafegaa", sum := "b9ba3decf4a6870cb23cc8953dbfee4003ac2be088d158c6f7e5f67e2678cc93", func := "reliquary/reliquarylaw03.IdentDigits", spec := "identDigits", inPlace := ["internal/bytealg.IndexByteString", "internal/bytealg.IndexString", "internal/abi.NoEscape"], unfollowed := true, recurses := true, named := ["internal/bytealg.MaxLen"], apart := false }
def IdentDigitsSaid : Prop := identDigitsRow.holds Try.pinned (OpenSpec.ofChange identDigitsSpec)

/-- ITS FALSE NEIGHBOUR: 'it returns false'. Refute it at one input. -/
def identDigitsWrong : ChangeSpec := { name := "identDigits", fn := fun _ => fun
  | [d1, d2] => { results := [.lit (.bool false)], args := [d1, d2] }
  | _ => none }
def IdentDigitsWrongFalsely : Prop := identDigitsRow.holds Try.pinned (OpenSpec.ofChange identDigitsWrong)

/-- 'reliquarylaw03.IdentWrites': WHATEVER THE INPUT: true; the input reads as it did. -/
def identWritesSpec : ChangeSpec := { name := "identWrites", fn := fun _ => fun
  | [d1, d2, d3] => { results := [.lit (.bool true)], args := [d1, d2, d3] }
  | _ => none }
def identWritesRow : OpenClaim := { program := "ytcglkhcgnafegaa", sum := "b9ba3decf4a6870cb23cc8953dbfee4003ac2be088d158c6f7e5f67e2678cc93", func := "reliquary/reliquarylaw03.IdentWrites", spec := "identWrites", inPlace := ["internal/bytealg.IndexByteString", "internal/bytealg.IndexString", "internal/abi.NoEscape"], unfollowed := true, recurses := true, named := ["internal/bytealg.MaxLen"], apart := false }
def IdentWritesSaid : Prop := identWritesRow.holds Try.pinned (OpenSpec.ofChange identWritesSpec)

/-- ITS FALSE NEIGHBOUR: 'it returns false'. Refute it at one input. -/
def identWritesWrong : ChangeSpec := { name := "identWrites", fn := fun _ => fun
  | [d1, d2, d3] => { results := [.lit (.bool false)], args := [d1, d2, d3] }
  | _ => none }
def IdentWritesWrongFalsely : Prop := identWritesRow.holds Try.pinned (OpenSpec.ofChange identWritesWrong)

/-- 'reliquarylaw03.IdentBack': WHATEVER THE INPUT: true; the input reads as it did. -/
def identBackSpec : ChangeSpec := { name := "identBack", fn := fun _ => fun
  | [d1, d2, d3] => { results := [.lit (.bool true)], args := [d1, d2, d3] }
  | _ => none }
def identBackRow : OpenClaim := { program := "ytcglkhcgnafegaa", sum := "b9ba3decf4a6870cb23cc8953dbfee4003ac2be088d158c6f7e5f67e2678cc93", func := "reliquary/reliquarylaw03.IdentBack", spec := "identBack", inPlace := ["internal/bytealg.IndexByteString", "internal/bytealg.IndexString", "internal/abi.NoEscape"], unfollowed := true, recurses := true, named := ["internal/bytealg.MaxLen"], apart := false }
def IdentBackSaid : Prop := identBackRow.holds Try.pinned (OpenSpec.ofChange identBackSpec)

/-- ITS FALSE NEIGHBOUR: 'it returns false'. Refute it at one input. -/
def identBackWrong : ChangeSpec := { name := "identBack", fn := fun _ => fun
  | [d1, d2, d3] => { results := [.lit (.bool false)], args := [d1, d2, d3] }
  | _ => none }
def IdentBackWrongFalsely : Prop := identBackRow.holds Try.pinned (OpenSpec.ofChange identBackWrong)

/- THE SECOND FORM. 'bulk': how many values and letters a reading holds, each counted each time it is reached (what is shared counts as often as it is met; a slice's spare places count too). A statement '..UptoSaid' is the law's where the arguments, and the package variables that the reading takes, are together of bulk at most 1048576: NARROWER than '..Said'. Prove '..Said' where nothing that the law and all that it calls make is longer than what came in: it says more and counts as full. Else prove '..UptoSaid'. A law counts once. -/
mutual
def uptoBulk {H : Type} : DataW H → Nat
  | .lit (.string bytes) => bytes.length + 1
  | .lit _ => 1
  | .nil => 1
  | .ptr d => uptoBulk d + 1
  | .slice elems spare => uptoBulkAll elems + uptoBulkAll spare + 1
  | .agg parts => uptoBulkAll parts + 1
  | .iface _ d => uptoBulk d + 1
  | .map entries => uptoBulkEntries entries + 1
  | .held _ => 1
def uptoBulkAll {H : Type} : List (DataW H) → Nat
  | [] => 0
  | d :: r => uptoBulk d + uptoBulkAll r
def uptoBulkEntries {H : Type} : List (Lit × DataW H) → Nat
  | [] => 0
  | x :: r => uptoBulkEntry x + uptoBulkEntries r
def uptoBulkEntry {H : Type} : Lit × DataW H → Nat
  | (.string bytes, d) => bytes.length + uptoBulk d + 1
  | (_, d) => uptoBulk d + 1
 end
def uptoSmall : (H : Type) → List (DataW H) → Bool := fun _ ds => decide (uptoBulkAll ds ≤ 1048576)
def OpenSpec.upto (s : _root_.Go.ChangeSpec) : _root_.Go.OpenSpec := { _root_.Go.OpenSpec.ofChange s with cond := some uptoSmall }

/-- 'reliquarylaw03.IdentFinds', WHERE WHAT IT READS IS OF BULK AT MOST 1048576: true; the input reads as it did. -/
def identFindsUptoRow : OpenClaim := { program := "ytcglkhcgnafegaa", sum := "b9ba3decf4a6870cb23cc8953dbfee4003ac2be088d158c6f7e5f67e2678cc93", func := "reliquary/reliquarylaw03.IdentFinds", spec := "identFinds", inPlace := ["internal/bytealg.IndexByteString", "internal/bytealg.IndexString", "internal/abi.NoEscape"], unfollowed := true, recurses := true, named := ["internal/bytealg.MaxLen"], apart := false, narrowed := true }
def IdentFindsUptoSaid : Prop := identFindsUptoRow.holds Try.pinned (OpenSpec.upto identFindsSpec)

/-- 'reliquarylaw03.IdentShares', WHERE WHAT IT READS IS OF BULK AT MOST 1048576: true; the input reads as it did. -/
def identSharesUptoRow : OpenClaim := { program := "ytcglkhcgnafegaa", sum := "b9ba3decf4a6870cb23cc8953dbfee4003ac2be088d158c6f7e5f67e2678cc93", func := "reliquary/reliquarylaw03.IdentShares", spec := "identShares", inPlace := ["internal/bytealg.IndexByteString", "internal/bytealg.IndexString", "internal/abi.NoEscape"], unfollowed := true, recurses := true, named := ["internal/bytealg.MaxLen"], apart := false, narrowed := true }
def IdentSharesUptoSaid : Prop := identSharesUptoRow.holds Try.pinned (OpenSpec.upto identSharesSpec)

/-- 'reliquarylaw03.IdentShort', WHERE WHAT IT READS IS OF BULK AT MOST 1048576: true; the input reads as it did. -/
def identShortUptoRow : OpenClaim := { program := "ytcglkhcgnafegaa", sum := "b9ba3decf4a6870cb23cc8953dbfee4003ac2be088d158c6f7e5f67e2678cc93", func := "reliquary/reliquarylaw03.IdentShort", spec := "identShort", inPlace := ["internal/bytealg.IndexByteString", "internal/bytealg.IndexString", "internal/abi.NoEscape"], unfollowed := true, recurses := true, named := ["internal/bytealg.MaxLen"], apart := false, narrowed := true }
def IdentShortUptoSaid : Prop := identShortUptoRow.holds Try.pinned (OpenSpec.upto identShortSpec)

/-- 'reliquarylaw03.IdentDigits', WHERE WHAT IT READS IS OF BULK AT MOST 1048576: true; the input reads as it did. -/
def identDigitsUptoRow : OpenClaim := { program := "ytcglkhcgnafegaa", sum := "b9ba3decf4a6870cb23cc8953dbfee4003ac2be088d158c6f7e5f67e2678cc93", func := "reliquary/reliquarylaw03.IdentDigits", spec := "identDigits", inPlace := ["internal/bytealg.IndexByteString", "internal/bytealg.IndexString", "internal/abi.NoEscape"], unfollowed := true, recurses := true, named := ["internal/bytealg.MaxLen"], apart := false, narrowed := true }
def IdentDigitsUptoSaid : Prop := identDigitsUptoRow.holds Try.pinned (OpenSpec.upto identDigitsSpec)

/-- 'reliquarylaw03.IdentWrites', WHERE WHAT IT READS IS OF BULK AT MOST 1048576: true; the input reads as it did. -/
def identWritesUptoRow : OpenClaim := { program := "ytcglkhcgnafegaa", sum := "b9ba3decf4a6870cb23cc8953dbfee4003ac2be088d158c6f7e5f67e2678cc93", func := "reliquary/reliquarylaw03.IdentWrites", spec := "identWrites", inPlace := ["internal/bytealg.IndexByteString", "internal/bytealg.IndexString", "internal/abi.NoEscape"], unfollowed := true, recurses := true, named := ["internal/bytealg.MaxLen"], apart := false, narrowed := true }
def IdentWritesUptoSaid : Prop := identWritesUptoRow.holds Try.pinned (OpenSpec.upto identWritesSpec)

/-- 'reliquarylaw03.IdentBack', WHERE WHAT IT READS IS OF BULK AT MOST 1048576: true; the input reads as it did. -/
def identBackUptoRow : OpenClaim := { program := "ytcglkhcgnafegaa", sum := "b9ba3decf4a6870cb23cc8953dbfee4003ac2be088d158c6f7e5f67e2678cc93", func := "reliquary/reliquarylaw03.IdentBack", spec := "identBack", inPlace := ["internal/bytealg.IndexByteString", "internal/bytealg.IndexString", "internal/abi.NoEscape"], unfollowed := true, recurses := true, named := ["internal/bytealg.MaxLen"], apart := false, narrowed := true }
def IdentBackUptoSaid : Prop := identBackUptoRow.holds Try.pinned (OpenSpec.upto identBackSpec)

end Rows
end Go.Proofs.Ytcglkhcgnafegaa
