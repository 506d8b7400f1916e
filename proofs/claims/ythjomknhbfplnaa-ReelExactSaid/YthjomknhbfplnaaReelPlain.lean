/- The reel's states and what each call makes of them: plain Lean. -/
import Derived.Test.YthjomknhbfplnaaSorted
namespace Go.Proofs.Ythjomknhbfplnaa.Reel
open Go.RowKit

structure Spool where
  bytes : List UInt8
  safe : Nat
structure St where
  l : List ByteArray
  ts : List Spool
  used : Nat
  room : Nat
  down : Bool
  acts : Nat
  armed : Nat
  life : Nat
def roomOf (n : Int) : Nat := if n < 0 then 0 else if 67108864 < n then 67108864 else n.toNat
def new (n : Int) : St := ⟨[], [], 0, roomOf n, false, 0, 0, 0⟩
def isName (s : ByteArray) : Bool := decide (1 ≤ s.size ∧ s.size ≤ 32)
def size (ts : List Spool) : Nat := (ts.map fun t => t.bytes.length).sum
/-- what all states are -/
structure St.Ok (S : St) : Prop where
  len : S.ts.length = S.l.length
  rising : Rising S.l
  few : S.l.length ≤ 64
  used : S.used = size S.ts
  most : S.used ≤ 67108864
  room : S.room ≤ 67108864
  each : ∀ t ∈ S.ts, t.bytes.length ≤ 4194304 ∧ t.safe ≤ t.bytes.length
  names : ∀ x ∈ S.l, isName x = true
def offS (S : St) : St := if S.down = true then S else { S with down := true, armed := 0, life := S.life + 1 }
def actS (S : St) : St × Int :=
  if S.armed = 0 then ({ S with acts := S.acts + 1 }, 0)
  else if S.armed = 1 then ({ S with acts := S.acts + 1, down := true, armed := 0, life := S.life + 1 }, 10)
  else ({ S with acts := S.acts + 1, armed := S.armed - 1 }, 0)
/-- the tape under a name -/
def at_ (S : St) (x : ByteArray) : Option Spool := if hasN S.l x = true then S.ts[posOf S.l x]? else none
def putT (S : St) (x : ByteArray) (t : Spool) : St :=
  { S with l := putN S.l x, ts := if hasN S.l x = true then S.ts.set (posOf S.l x) t else S.ts.take (posOf S.l x) ++ t :: S.ts.drop (posOf S.l x) }
def delT (S : St) (x : ByteArray) : St :=
  { S with l := delN S.l x, ts := if hasN S.l x = true then S.ts.take (posOf S.l x) ++ S.ts.drop (posOf S.l x + 1) else S.ts }
def appendS (S : St) (x s : ByteArray) : St × Int :=
  if S.down = true then (S, 10)
  else if isName x = false then (S, 1)
  else if S.room < S.used + s.size then (S, 11)
  else match at_ S x with
    | some t => if 4194304 < t.bytes.length + s.size then (S, 11) else actS { putT S x { t with bytes := t.bytes ++ s.data.toList } with used := S.used + s.size }
    | none => if 4194304 < s.size ∨ 64 ≤ S.l.length then (S, 11) else actS { putT S x ⟨s.data.toList, 0⟩ with used := S.used + s.size }
def syncS (S : St) (x : ByteArray) : St × Int :=
  if S.down = true then (S, 10)
  else match at_ S x with
    | none => (S, 12)
    | some t => if (actS S).2 = 0 then (putT (actS S).1 x { t with safe := t.bytes.length }, 0) else actS S
def cutT (t : Spool) (n : Nat) : Spool := ⟨t.bytes.take n, min t.safe n⟩
def cutS (S : St) (x : ByteArray) (n : Int) : St × Int :=
  if S.down = true then (S, 10)
  else match at_ S x with
    | none => (S, 12)
    | some t => if n < 0 ∨ (t.bytes.length : Int) < n then (S, 1)
      else if (actS S).2 = 0 then ({ putT (actS S).1 x (cutT t n.toNat) with used := S.used - (t.bytes.length - n.toNat) }, 0) else actS S
def lenAt (S : St) (x : ByteArray) : Nat := match at_ S x with
  | some t => t.bytes.length
  | none => 0
def swapS (S : St) (x to : ByteArray) : St × Int :=
  if S.down = true then (S, 10)
  else match at_ S x with
    | none => (S, 12)
    | some t => if isName to = false then (S, 1)
      else if (actS S).2 = 0 then (if x = to then ((actS S).1, 0) else (putT { delT (actS S).1 x with used := S.used - lenAt S to } to t, 0)) else actS S
def dropS (S : St) (x : ByteArray) : St × Int :=
  if S.down = true then (S, 10)
  else match at_ S x with
    | none => (S, 12)
    | some t => if (actS S).2 = 0 then ({ delT (actS S).1 x with used := S.used - t.bytes.length }, 0) else actS S
def readS (S : St) (x : ByteArray) : List UInt8 × Int :=
  if S.down = true then ([], 10)
  else match at_ S x with
    | none => ([], 12)
    | some t => (t.bytes, 0)
def sizeS (S : St) (x : ByteArray) : Int := match at_ S x with
  | none => -1
  | some t => t.bytes.length
/-- how many of so many bytes a fate keeps, and whether the last is torn -/
def kept (f : Int) (k : Nat) : Nat × Bool := if 0 ≤ f then (min f.toNat k, false) else if f ≤ -(k : Int) then (k, true) else ((-f).toNat, true)
def tear (l : List UInt8) : List UInt8 := match l.reverse with
  | [] => []
  | c :: r => (( c ^^^ 0x55) :: r).reverse
def left (t : Spool) (f : Int) : Spool :=
  let n := (kept f (t.bytes.length - t.safe)).1
  let b := t.bytes.take (t.safe + n)
  let b := if (kept f (t.bytes.length - t.safe)).2 = true ∧ 0 < n then tear b else b
  ⟨b, b.length⟩
/-- tapes behind a loss of power; i: how many fates were drawn -/
def onT (fs : List Int) : Nat → List Spool → List Spool
  | _, [] => []
  | i, t :: r => if t.bytes.length = t.safe then t :: onT fs i r else left t (if fs = [] then 0 else fs.getD (i % fs.length) 0) :: onT fs (if fs = [] then i else i + 1) r
def onS (S : St) (fs : List Int) : St := if S.down = false then S else { S with down := false, ts := onT fs 0 S.ts, used := size (onT fs 0 S.ts) }
def armS (S : St) (n : Int) : St := { S with armed := n.toNat }
def roomS (S : St) (n : Int) : St := { S with room := roomOf n }

end Go.Proofs.Ythjomknhbfplnaa.Reel
