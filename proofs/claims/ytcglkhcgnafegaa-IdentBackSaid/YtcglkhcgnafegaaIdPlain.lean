/- Plain functions of layer 3 (ids and their digits), and what they come to; no program in sight. -/
import Derived.Below
import Derived.Lib.Strings
namespace Go.Proofs.Ytcglkhcgnafegaa.Idp

/-- a half of a byte -/
def nibB (b : Nat) (k : Nat) : Nat := if k % 2 = 0 then b / 16 else b % 16
def byteAt (s : ByteArray) (i : Nat) : Nat := (s.data.toList.getD i 0).toNat
def digitN (s : ByteArray) (k : Nat) : Nat := nibB (byteAt s (k / 2)) k
def digitZ (s : ByteArray) (k : Int) : Int := if s.size = 32 ∧ 0 ≤ k ∧ k < 64 then ((digitN s k.toNat : Nat) : Int) else -1
def hexChar (n : Nat) : UInt8 := (if n < 10 then 48 + n else 87 + n).toUInt8
def hexUpto (s : ByteArray) (n : Nat) : List UInt8 := (List.range n).map fun k => hexChar (digitN s k)
def hexL (s : ByteArray) : List UInt8 := if s.size = 32 then hexUpto s 64 else []
def isHex (c : UInt8) : Bool := (48 ≤ c.toNat && c.toNat ≤ 57) || (97 ≤ c.toNat && c.toNat ≤ 102)
def hexVal (c : UInt8) : Nat := if c.toNat ≤ 57 then c.toNat - 48 else c.toNat - 87
def valueZ (c : UInt8) : Int := if isHex c then ((hexVal c : Nat) : Int) else -1
def areDig (l : List UInt8) : Bool := l.all isHex
def unhexUpto (l : List UInt8) (n : Nat) : List UInt8 := (List.range n).map fun k => (16 * hexVal (l.getD (2 * k) 0) + hexVal (l.getD (2 * k + 1) 0)).toUInt8
def unhexR (s : ByteArray) : List UInt8 × Int := if s.size ≠ 64 then ([], 1) else if areDig s.data.toList = false then ([], 4) else (unhexUpto s.data.toList 32, 0)
/-- how many of the digits k, k+1, .. 63 the two have alike -/
def shareFrom (a b : ByteArray) : Nat → Nat → Nat
  | 0, k => k
  | f + 1, k => if digitN a k = digitN b k then shareFrom a b f (k + 1) else k
def share (a b : ByteArray) : Nat := if a.size = 32 ∧ b.size = 32 then shareFrom a b 64 0 else 0
def has (id : ByteArray) (d : List UInt8) : Bool := decide (id.size = 32) && (areDig d && d.isPrefixOf (hexL id))
def findR (l : List ByteArray) (d : List UInt8) : ByteArray × Int :=
  if d.length > 64 ∨ areDig d = false then (ByteArray.empty, 4) else
  match l.filter (has · d) with
  | [] => (ByteArray.empty, 12)
  | x :: r => if r.all (fun y => decide (y = x)) then (x, 0) else (ByteArray.empty, 6)
def mostUpto (l : List ByteArray) (id : ByteArray) : Nat :=
  l.foldl (fun m o => if o ≠ id ∧ o.size = 32 then max m (share o id + 1) else m) 4
def shortR (l : List ByteArray) (id : ByteArray) : List UInt8 :=
  if id.size = 32 ∧ (∃ o ∈ l, o = id) then (hexL id).take (mostUpto l id) else []

theorem nibB_lt (b k : Nat) (h : b < 256) : nibB b k < 16 := by unfold nibB; split <;> omega
theorem byteAt_lt (s : ByteArray) (i : Nat) : byteAt s i < 256 := by unfold byteAt; exact (s.data.toList.getD i 0).toNat_lt
theorem digitN_lt (s : ByteArray) (k : Nat) : digitN s k < 16 := nibB_lt _ _ (byteAt_lt s _)
theorem digitZ_in {s : ByteArray} {k : Int} (hs : s.size = 32) (h0 : 0 ≤ k) (h1 : k < 64) : digitZ s k = ((digitN s k.toNat : Nat) : Int) := by
  unfold digitZ; rw [if_pos ⟨hs, h0, h1⟩]
theorem digitZ_bad {s : ByteArray} {k : Int} (h : ¬ s.size = 32) : digitZ s k = -1 := by
  unfold digitZ; rw [if_neg (fun x => h x.1)]
theorem digitZ_out {s : ByteArray} {k : Int} (h : ¬ (0 ≤ k ∧ k < 64)) : digitZ s k = -1 := by
  unfold digitZ; rw [if_neg (fun x => h x.2)]
theorem hexUpto_succ (s : ByteArray) (n : Nat) : hexUpto s (n + 1) = hexUpto s n ++ [hexChar (digitN s n)] := by
  unfold hexUpto; rw [List.range_succ, List.map_append]; rfl
theorem hexUpto_length (s : ByteArray) (n : Nat) : (hexUpto s n).length = n := by simp [hexUpto]
theorem unhexUpto_succ (l : List UInt8) (n : Nat) : unhexUpto l (n + 1) = unhexUpto l n ++ [(16 * hexVal (l.getD (2 * n) 0) + hexVal (l.getD (2 * n + 1) 0)).toUInt8] := by
  unfold unhexUpto; rw [List.range_succ, List.map_append]; rfl
theorem unhexUpto_length (l : List UInt8) (n : Nat) : (unhexUpto l n).length = n := by simp [unhexUpto]
theorem hexVal_lt (c : UInt8) (h : isHex c = true) : hexVal c < 16 := by
  simp [isHex] at h; unfold hexVal; split <;> omega
theorem areDig_getD {l : List UInt8} (h : areDig l = true) {k : Nat} (hk : k < l.length) : isHex (l.getD k 0) = true := by
  unfold areDig at h; rw [List.all_eq_true] at h
  rw [List.getD_eq_getElem?_getD, List.getElem?_eq_getElem hk]; exact h _ (List.getElem_mem hk)
theorem hexChar_digit (d : Nat) (h : d < 16) : isHex (hexChar d) = true ∧ hexVal (hexChar d) = d := by
  have : ∀ d : Fin 16, isHex (hexChar d) = true ∧ hexVal (hexChar d) = d := by decide +kernel
  exact this ⟨d, h⟩
theorem hexChar_val (c : UInt8) (h : isHex c = true) : hexChar (hexVal c) = c := by
  have : ∀ n : Fin 256, isHex (UInt8.ofNat n) = true → hexChar (hexVal (UInt8.ofNat n)) = UInt8.ofNat n := by decide +kernel
  have := this ⟨c.toNat, c.toNat_lt⟩
  simp only [UInt8.ofNat_toNat] at this
  exact this h
end Go.Proofs.Ytcglkhcgnafegaa.Idp
