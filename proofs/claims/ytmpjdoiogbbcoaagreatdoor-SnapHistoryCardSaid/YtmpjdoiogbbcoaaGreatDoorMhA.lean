/- Texts in a row: PathPlain, Base, PathSplit, Mem, Shelf, Strs, PathWalkA, PathWalkB, Bulk, OpenStrs, BkPlain, Sorted, ObjP, IdPlain, IdWalkA, Tail, Only, ObW. -/
import Derived.Below
import Derived.Laws.Strings
import Derived.Lib.SplitLaws
import Derived.Lib.IndexLaws
import Derived.Lib.IndexBytes
import Derived.Lib.Join
import Derived.Lib.IndexAny
import Derived.Test.YtmpjdoiogbbcoaaGreatDoorChecked
import Derived.WalkKit
import Derived.BigQuiet
import Derived.Deep.QuietTactic
import Derived.Shelf.Strings.Builder1
import Derived.Shelf.Strings.Builder2
import Derived.Shelf.Strings.OnBuilder
import Derived.Shelf.Small.Bits
import Derived.Shelf.Small.Strs
import Derived.Shelf.Small.Wraps
import Derived.Shelf.Strings.BuilderF
import Derived.Shelf.Strings.BuilderK
import Derived.Shelf.Strings.Builder2Cap
import Derived.Shelf.Strconv.Itoa0
import Derived.Shelf.Strings.Search1
import Derived.Shelf.Strings.Search2
import Derived.Shelf.Strings.Search3
import Derived.Shelf.Strings.Count
import Derived.Shelf.LaysM
import Derived.Shelf.Strings.Shaped
import Derived.Shelf.Sort.Plain
import Derived.Shelf.Strings.Prefix
import Derived.Shelf.Strings.Split
import Derived.Shelf.Strings.SplitShaped
import Derived.Shelf.Unicode.DecodeSlow
import Derived.Shelf.Strings.BuilderCap
import Derived.Shelf.Slices.Turned
import Derived.Ground.Names2Prog
import Derived.Shelf.Slices.ReverseS
import Derived.Shelf.Slices.Clone
import Derived.Shelf.Slices.CompactS
import Derived.Shelf.Slices.SearchI
import Derived.Shelf.Slices.Cells
import Derived.Shelf.Slices.In.SortNone
import Derived.Test.YtmpjdoiogbbcoaaGreatDoorProg
import Derived.Test.YtmpjdoiogbbcoaaGreatDoorRows
import Derived.Test.YtmpjdoiogbbcoaaGreatDoorCards
import Derived.Test.YtmpjdoiogbbcoaaGreatDoorTie
import Derived.ProofKit
import Derived.OpenShut
import Derived.ShutString
import Derived.ChangeOld
import Derived.SliceStrings
import Derived.Deep.DeepHandedRow
import Derived.Lib.LaidTab
import Derived.Lib.Strings
import Derived.Deep.Quiet
import Derived.StillTail
import Derived.Laws.Rows
import Derived.Laws.OwnMore
import Derived.Laws.IdiomCopy
import Derived.Deep.Draws
import Derived.WalkLawsBesides
import Derived.Deep.DeepCutAuto
import Derived.Deep.CutBlock
import Derived.Deep.DeepFit
import Derived.Outline
/- Plain functions of layer 5 (names, and paths of them), and what they come to; no program in sight. -/
namespace Go.Proofs.YtmpjdoiogbbcoaaGreatDoor.Pap

/-- a name -/
def goodL (l : List UInt8) : Bool := decide (1 ≤ l.length ∧ l.length ≤ 255 ∧ l ≠ [46] ∧ l ≠ [46, 46] ∧ 47 ∉ l ∧ 0 ∉ l)
/-- what lies between the slashes -/
def pieces : List UInt8 → List (List UInt8)
 | [] => [[]]
 | c :: r => if c = 47 then [] :: pieces r else match pieces r with
  | [] => [[c]]
  | p :: q => (c :: p) :: q
def joinL : List (List UInt8) → List UInt8
 | [] => []
 | [x] => x
 | x :: y :: r => x ++ 47 :: joinL (y :: r)
def checkE (l : List (List UInt8)) : Int := if l = [] ∨ ∃ x ∈ l, goodL x = false then 30 else if 64 < l.length then 33 else 0
def splitE (s : List UInt8) : Int := checkE (pieces s)
/-- how bytes stand -/
def cmpL : List UInt8 → List UInt8 → Int
 | [], [] => 0
 | [], _ :: _ => -1
 | _ :: _, [] => 1
 | a :: x, b :: y => if a.toNat < b.toNat then -1 else if b.toNat < a.toNat then 1 else cmpL x y
/-- how names stand -/
def cmpP : List (List UInt8) → List (List UInt8) → Int
 | [], [] => 0
 | [], _ :: _ => -1
 | _ :: _, [] => 1
 | a :: x, b :: y => if cmpL a b = 0 then cmpP x y else cmpL a b
def compareR (a b : List UInt8) : Int := if splitE a = 0 ∧ splitE b = 0 then cmpP (pieces a) (pieces b) else 0
def withinR (f p : List UInt8) : Bool := decide (splitE f = 0 ∧ splitE p = 0 ∧ (pieces f).length < (pieces p).length ∧ pieces f = (pieces p).take (pieces f).length)

theorem pieces_ne (s : List UInt8) : pieces s ≠ [] := by
 cases s with
 | nil => simp [pieces]
 | cons c r =>
  unfold pieces
  split
  ·simp
  ·split <;> simp
theorem pieces_slash (r : List UInt8) : pieces (47 :: r) = [] :: pieces r := by rw [pieces, if_pos rfl]
theorem pieces_other {c : UInt8} {r : List UInt8} (h : c ≠ 47) : ∃ p q, pieces r = p :: q ∧ pieces (c :: r) = (c :: p) :: q := by
 cases hp : pieces r with
 | nil => exact absurd hp (pieces_ne r)
 | cons p q => exact ⟨p, q, rfl, by rw [pieces, if_neg h, hp]⟩
/-- a piece without a slash, and a slash behind it -/
theorem pieces_cut : ∀ (a r : List UInt8), 47 ∉ a → pieces (a ++ 47 :: r) = a :: pieces r
 | [], r, _ => pieces_slash r
 | c :: a, r, h => by
  have hc : c ≠ 47 := fun e => h (by simp [e])
  obtain ⟨p, q, h1, h2⟩ := pieces_other (r := a ++ 47 :: r) hc
  rw [List.cons_append, h2]
  rw [pieces_cut a r (fun e => h (by simp [e]))] at h1
  cases h1; rfl
theorem pieces_last : ∀ (a : List UInt8), 47 ∉ a → pieces a = [a]
 | [], _ => rfl
 | c :: a, h => by
  have hc : c ≠ 47 := fun e => h (by simp [e])
  obtain ⟨p, q, h1, h2⟩ := pieces_other (r := a) hc
  rw [h2]
  rw [pieces_last a (fun e => h (by simp [e]))] at h1
  cases h1; rfl
theorem joinL_cons (x : List UInt8) {l : List (List UInt8)} (h : l ≠ []) : joinL (x :: l) = x ++ 47 :: joinL l := by
 cases l with
 | nil => exact absurd rfl h
 | cons y r => rfl
theorem join_pieces (s : List UInt8) : joinL (pieces s) = s := by
 induction s with
 | nil => rfl
 | cons c r ih =>
  by_cases hc : c = 47
  ·subst hc; rw [pieces_slash, joinL_cons _ (pieces_ne r), ih]; rfl
  ·obtain ⟨p, q, h1, h2⟩ := pieces_other (r := r) hc
   rw [h1] at ih
   rw [h2]
   cases q with
   | nil => simp only [joinL] at ih ⊢; rw [ih]
   | cons y z => simp only [joinL] at ih ⊢; rw [List.cons_append, ih]
theorem pieces_join : ∀ (l : List (List UInt8)), l ≠ [] → (∀ x ∈ l, 47 ∉ x) → pieces (joinL l) = l
 | [], h, _ => absurd rfl h
 | [x], _, h => pieces_last x (h x (by simp))
 | x :: y :: r, _, h => by
  show pieces (x ++ 47 :: joinL (y :: r)) = _
  rw [pieces_cut x _ (h x (by simp)), pieces_join (y :: r) (by simp) (fun z hz => h z (by simp [hz]))]
theorem good_free {x : List UInt8} (h : goodL x = true) : 47 ∉ x := by unfold goodL at h; simp at h; exact h.2.2.2.2.1

/-! check -/
theorem checkE_ok {l : List (List UInt8)} : checkE l = 0 ↔ l ≠ [] ∧ (∀ x ∈ l, goodL x = true) ∧ l.length ≤ 64 := by
 unfold checkE
 by_cases h : l = [] ∨ ∃ x ∈ l, goodL x = false
 ·rw [if_pos h]
  constructor
  ·intro e; cases e
  ·rintro ⟨h1, h2, _⟩
   rcases h with h | ⟨x, hx, hg⟩
   ·exact absurd h h1
   ·rw [h2 x hx] at hg; cases hg
 ·rw [if_neg h]
  have h1 : l ≠ [] := fun e => h (.inl e)
  have h2 : ∀ x ∈ l, goodL x = true := fun x hx => by
   cases hg : goodL x
   ·exact absurd ⟨x, hx, hg⟩ (fun e => h (.inr e))
   ·rfl
  split
  ·rename_i h3
   constructor
   ·intro e; cases e
   ·rintro ⟨_, _, h4⟩; omega
  ·rename_i h3; exact ⟨fun _ => ⟨h1, h2, by omega⟩, fun _ => rfl⟩
/-! the order -/
theorem cmpL_self : ∀ a : List UInt8, cmpL a a = 0
 | [] => rfl
 | c :: a => by unfold cmpL; rw [if_neg (by omega), if_neg (by omega)]; exact cmpL_self a
theorem cmpL_zero : ∀ a b : List UInt8, cmpL a b = 0 → a = b
 | [], [], _ => rfl
 | [], _ :: _, h => by simp [cmpL] at h
 | _ :: _, [], h => by simp [cmpL] at h
 | a :: x, b :: y, h => by
  unfold cmpL at h
  split at h
  ·cases h
  ·split at h
   ·cases h
   ·have : a = b := UInt8.toNat_inj.1 (by omega)
    rw [this, cmpL_zero x y h]
theorem cmpL_neg : ∀ a b : List UInt8, cmpL b a = - cmpL a b
 | [], [] => rfl
 | [], _ :: _ => rfl
 | _ :: _, [] => rfl
 | a :: x, b :: y => by
  unfold cmpL
  rcases Nat.lt_trichotomy a.toNat b.toNat with h | h | h
  ·rw [if_neg (by omega), if_pos h, if_pos h]; rfl
  ·rw [if_neg (by omega), if_neg (by omega), if_neg (by omega), if_neg (by omega)]; exact cmpL_neg x y
  ·rw [if_pos h, if_neg (by omega), if_pos h]
theorem cmpL_range : ∀ a b : List UInt8, cmpL a b = -1 ∨ cmpL a b = 0 ∨ cmpL a b = 1
 | [], [] => .inr (.inl rfl)
 | [], _ :: _ => .inl rfl
 | _ :: _, [] => .inr (.inr rfl)
 | a :: x, b :: y => by
  unfold cmpL
  split
  ·exact .inl rfl
  ·split
   ·exact .inr (.inr rfl)
   ·exact cmpL_range x y
theorem cmpL_trans : ∀ a b c : List UInt8, cmpL a b = -1 → cmpL b c = -1 → cmpL a c = -1
 | [], [], _, h, _ => by cases h
 | [], _ :: _, [], _, h => by cases h
 | [], _ :: _, _ :: _, _, _ => rfl
 | _ :: _, [], _, h, _ => by cases h
 | a :: x, b :: y, [], _, h => by cases h
 | a :: x, b :: y, c :: z, h1, h2 => by
  unfold cmpL at h1 h2 ⊢
  split at h1
  ·split at h2
   ·rw [if_pos (by omega)]
   ·split at h2
    ·cases h2
    ·rw [if_pos (by omega)]
  ·split at h1
   ·cases h1
   ·split at h2
    ·rw [if_pos (by omega)]
    ·split at h2
     ·cases h2
     ·rw [if_neg (by omega), if_neg (by omega)]; exact cmpL_trans x y z h1 h2
theorem cmpP_self : ∀ a, cmpP a a = 0
 | [] => rfl
 | x :: a => by unfold cmpP; rw [if_pos (cmpL_self x)]; exact cmpP_self a
theorem cmpP_zero : ∀ a b, cmpP a b = 0 → a = b
 | [], [], _ => rfl
 | [], _ :: _, h => by simp [cmpP] at h
 | _ :: _, [], h => by simp [cmpP] at h
 | a :: x, b :: y, h => by
  unfold cmpP at h
  split at h
  ·rename_i h0; rw [cmpL_zero a b h0, cmpP_zero x y h]
  ·rename_i h0; exact absurd h h0
theorem cmpP_neg : ∀ a b, cmpP b a = - cmpP a b
 | [], [] => rfl
 | [], _ :: _ => rfl
 | _ :: _, [] => rfl
 | a :: x, b :: y => by
  unfold cmpP
  rw [cmpL_neg a b]
  by_cases h : cmpL a b = 0
  ·rw [if_pos (by omega), if_pos h]; exact cmpP_neg x y
  ·rw [if_neg (by omega), if_neg h]
theorem cmpP_range : ∀ a b, cmpP a b = -1 ∨ cmpP a b = 0 ∨ cmpP a b = 1
 | [], [] => .inr (.inl rfl)
 | [], _ :: _ => .inl rfl
 | _ :: _, [] => .inr (.inr rfl)
 | a :: x, b :: y => by
  unfold cmpP
  split
  ·exact cmpP_range x y
  ·exact cmpL_range a b
theorem cmpP_trans : ∀ a b c, cmpP a b = -1 → cmpP b c = -1 → cmpP a c = -1
 | [], [], _, h, _ => by cases h
 | [], _ :: _, [], _, h => by cases h
 | [], _ :: _, _ :: _, _, _ => rfl
 | _ :: _, [], _, h, _ => by cases h
 | a :: x, b :: y, [], _, h => by cases h
 | a :: x, b :: y, c :: z, h1, h2 => by
  unfold cmpP at h1 h2 ⊢
  by_cases e1 : cmpL a b = 0
  ·rw [if_pos e1] at h1
   have := cmpL_zero a b e1; subst this
   by_cases e2 : cmpL a c = 0
   ·rw [if_pos e2] at h2 ⊢; exact cmpP_trans x y z h1 h2
   ·rw [if_neg e2] at h2 ⊢; exact h2
  ·rw [if_neg e1] at h1
   by_cases e2 : cmpL b c = 0
   ·have := cmpL_zero b c e2; subst this
    rw [if_neg e1]; exact h1
   ·rw [if_neg e2] at h2
    have := cmpL_trans a b c h1 h2
    rw [if_neg (by omega)]; exact this
end Go.Proofs.YtmpjdoiogbbcoaaGreatDoor.Pap
/- Small words that every text of this seat uses. -/
namespace Go.Proofs.YtmpjdoiogbbcoaaGreatDoor
open Go.RowKit
theorem hid {p : Prop} (h : p) : Hid p := h
theorem ret_int {k : IntKind} {a b : Int} (h : a = b) : Ending.returned (.int k a) = .returned (.int k b) := by rw [h]
theorem ret_bool {a b : Bool} (h : a = b) : Ending.returned (.bool a) = .returned (.bool b) := by rw [h]
theorem below_then {a b c : World} (h : Below a.heap.size a b) (k : Below b.heap.size b c) : Below a.heap.size a c := h.trans (k.mono h.size)
theorem ba_toList (x : ByteArray) : x.toList = x.data.toList := ByteArray.toList_eq x
theorem ba_ext {x y : ByteArray} (h : x.data.toList = y.data.toList) : x = y := by
 cases x; cases y; simp at h; rw [h]
theorem bstr_ne {x y : ByteArray} (h : x ≠ y) : (x.toList == y.toList) = false := by
 rw [beq_eq_false_iff_ne, ba_toList, ba_toList]; exact fun e => h (ba_ext e)
theorem bstr_nil {x : ByteArray} (h : x.size = 0) : x.toList = [] := by
 rw [ba_toList]; apply List.length_eq_zero_iff.1; simpa using h
theorem bstr_some {x : ByteArray} (h : x.size ≠ 0) : ¬ x.toList = [] := by
 rw [ba_toList]; intro e; apply h; have := congrArg List.length e; simpa using this
theorem bstr_isEmpty {x : ByteArray} (h : x.size ≠ 0) : x.toList.isEmpty = false := by
 have := bstr_some h; cases hx : x.toList <;> simp_all
end Go.Proofs.YtmpjdoiogbbcoaaGreatDoor
/- Plain law: the library's cutting of a text at its slashes is its pieces. -/
namespace Go.Proofs.YtmpjdoiogbbcoaaGreatDoor.Pap

theorem split_take {s : List UInt8} {i : Nat} (h : s[i]? = some 47) : s = s.take i ++ 47 :: s.drop (i + 1) := by
 obtain ⟨hi, he⟩ := List.getElem?_eq_some_iff.1 h
 conv => lhs; rw [← List.take_append_drop i s]
 rw [List.drop_eq_getElem_cons hi, he]
theorem splitK_pieces : ∀ (k : Nat) (s : List UInt8), s.count 47 ≤ k → Lib.splitK [47] 0 k s = pieces s
 | 0, s, h => by
  have hn : 47 ∉ s := by intro hm; have := List.count_pos_iff.2 hm; omega
  rw [pieces_last s hn]; rfl
 | k + 1, s, h => by
  unfold Lib.splitK
  rw [Lib.index_one]
  by_cases hi : Lib.indexByte s 47 = -1
  ·rw [if_pos (by rw [hi]; rfl)]
   have hn : 47 ∉ s := by
    intro hm
    obtain ⟨j, hj, he⟩ := List.getElem_of_mem hm
    exact Lib.indexByte_none hi j (by rw [List.getElem?_eq_getElem hj, he])
   rw [pieces_last s hn]
  ·have hge := Lib.indexByte_ge s 47
   rw [if_neg (by rw [beq_iff_eq]; exact hi)]
   obtain ⟨i, hi'⟩ : ∃ i : Nat, Lib.indexByte s 47 = i := ⟨(Lib.indexByte s 47).toNat, by omega⟩
   obtain ⟨h1, h2⟩ := Lib.indexByte_some hi'
   have hn : 47 ∉ s.take i := by
    intro hm
    obtain ⟨j, hj, he⟩ := List.getElem_of_mem hm
    rw [List.length_take] at hj
    refine h2 j (by omega) ?_
    rw [List.getElem?_eq_getElem (by omega)]
    rw [List.getElem_take] at he
    rw [he]
   have hs := split_take h1
   have hc : (s.drop (i + 1)).count 47 ≤ k := by
    have := congrArg (List.count 47) hs
    rw [List.count_append, List.count_cons_self] at this
    omega
   have e : (Lib.indexByte s 47).toNat = i := by omega
   rw [e]
   show s.take (i + 0) :: Lib.splitK [47] 0 k (s.drop (i + 1)) = _
   rw [Nat.add_zero, splitK_pieces k _ hc]
   conv => rhs; rw [hs]
   rw [pieces_cut _ _ hn]
def slash : ByteArray := ⟨#[47]⟩
theorem splitB_pieces (s : ByteArray) : (Lib.splitB slash 0 (Lib.countB s slash) s).map (·.data.toList) = pieces s.data.toList := by
 rw [Lib.splitB_data]
 refine splitK_pieces _ _ ?_
 show s.data.toList.count 47 ≤ Lib.count s.data.toList [47]
 rw [Lib.count_one]; exact Nat.le_refl _
theorem join_eq : ∀ l : List (List UInt8), Lib.join l [47] = joinL l
 | [] => rfl
 | [x] => by simp [Lib.join, joinL]
 | x :: y :: r => by
  have ih := join_eq (y :: r)
  unfold Lib.join at ih ⊢
  rw [joinL, ← ih]
  simp [List.intercalate]
theorem joinL_len : ∀ (l : List (List UInt8)) (m : Nat), (∀ x ∈ l, x.length ≤ m) → (joinL l).length ≤ l.length * (m + 1)
 | [], m, _ => by simp [joinL]
 | [x], m, h => by have := h x (by simp); simp [joinL]; omega
 | x :: y :: r, m, h => by
  have ih := joinL_len (y :: r) m (fun z hz => h z (by simp [hz]))
  have := h x (by simp)
  simp only [joinL, List.length_append, List.length_cons] at ih ⊢
  rw [Nat.add_mul, Nat.one_mul]; omega
theorem good_len {x : List UInt8} (h : goodL x = true) : x.length ≤ 255 := by unfold goodL at h; simp at h; exact h.2.1
theorem join_bound {l : List (List UInt8)} (h : checkE l = 0) : (joinL l).length ≤ 64 * 256 := by
 obtain ⟨_, h2, h3⟩ := checkE_ok.1 h
 exact Nat.le_trans (joinL_len l 255 (fun x hx => good_len (h2 x hx))) (Nat.mul_le_mul h3 (Nat.le_refl _))
end Go.Proofs.YtmpjdoiogbbcoaaGreatDoor.Pap
/- Words on memory that this seat's walks use: a slice of bytes of the call's own, and its text. -/
namespace Go.Proofs.YtmpjdoiogbbcoaaGreatDoor
open Go.RowKit
set_option linter.unusedVariables false

theorem Tryz.infoB : (Tryz.prog.info? 5).map (fun i => (i.zero, i.size, i.bytes)) = some (some (.int .u8 0), 1, 1) := by kernel_rfl
def bvals (l : List UInt8) : List Value := l.map fun c => Value.int .u8 (c.toNat : Int)
theorem bvals_append (l r : List UInt8) : bvals (l ++ r) = bvals l ++ bvals r := by simp [bvals]
theorem bvals_length (l : List UInt8) : (bvals l).length = l.length := by simp [bvals]
theorem below_grown1 {B : Nat} {a w w' : World} {v : Value} {n : Nat} {xs : List Value} {e : TypeId} {s : Nat} (h : Below B a w) (ho : w.ownsRow B e s v n xs) (o : Obj) (hB : B ≤ w.heap.size) (hg : (w.alloc o).grownBy w' v.ownBlock) : Below B a w' :=
 (h.alloc hB o).grown hg (by simp; omega) (fun k hk => (ho.lt k hk).1)
theorem cellNew1 (w : World) (x : Value) (t : TypeId) : ∀ j u, [x][j]? = some u → (w.alloc (.cells #[x] t)).cell? ((⟨w.heap.size, 0, none⟩ : Addr).add j) = some u := by
 intro j u h
 cases j with
 | zero =>
  simp at h; subst h
  simp [Addr.add]
 | succ j => simp at h
theorem conv_own {w : World} {B : Nat} {v : Value} {l : List UInt8} (h : w.ownsRow B 5 1 v l.length (bvals l)) :
  (convert 59 9 v).run Tryz.prog w = .ok (.string ⟨l.toArray⟩) w := by
 have h' := h
 rcases h.2 with ⟨rfl, h0⟩ | ⟨g, cap, cur, rfl, hb, hg, hn, hc, hsz, htk⟩
 ·obtain rfl : l = [] := List.length_eq_zero_iff.1 h0
  exact run_convert_bytes_nil _ _ _ Tryz.underlying59 Tryz.underlying5 _ _ _ Tryz.underlying9
 ·refine run_convert_bytes_back w _ _ _ _ cap l Tryz.underlying59 Tryz.underlying5 Tryz.underlying9 ?_
  intro j hj
  have h1 := h'.cellAt j (by omega)
  have h2 : (⟨g, 0, none⟩ : Addr).add j = ⟨g, j, none⟩ := by
   unfold Addr.add; split
   ·subst_vars; rfl
   ·simp
  rw [h2, h1]; simp [bvals, List.getElem?_eq_getElem hj]
theorem own_drewN {w : World} {B e s n : Nat} {v : Value} {xs : List Value} (h : w.ownsRow B e s v n xs) (q : Nat) : (w.drewN q).ownsRow B e s v n xs := h
theorem own_below {w w' : World} {B e s n : Nat} {v : Value} {xs : List Value} (h : w.ownsRow B e s v n xs) (hb : Below w.heap.size w w') : w'.ownsRow B e s v n xs :=
 h.kept (row := none) ⟨hb.os, hb.tape, hb.output, hb.size, fun k hk _ => hb.block k hk⟩ (by cases hv : v.ownBlock <;> simp)
theorem below_drewN {B : Nat} {a w : World} (h : Below B a w) (q : Nat) : Below B a (w.drewN q) := ⟨h.os, h.tape, h.output, h.size, h.block⟩
/-- a world behind w: whatever lay, lies. THE CLASS for a region that draws its order and whose callees make memory. -/
structure After (w : World) where
 val : World
 below : Below w.heap.size w val
instance afterNonempty (w : World) : Nonempty (After w) := ⟨⟨w, Below.refl _ _⟩⟩
theorem wp_region_after {P : Program} {id : Nat} {Q : Exit → Act → World → Prop} {a : Act} {w : World} {l : List Oper} (hm : P.follows .mixedOrders = true) (hB : Region.lexB .any l.toArray = true)
  (h : wpQuiet P l.toArray (fun w' => ∃ x : After w, w' = x.val) (fun a' => ∀ w', (∃ x : After w, w' = x.val) → Q .normal a' w') l a) : (Code.region id l.toArray true).wp P Q a w :=
 wp_region_quiet (C := fun w' => ∃ x : After w, w' = x.val) hm hB ⟨⟨_, (Below.refl _ _).drew⟩, rfl⟩ (by simpa using h)
theorem calls_after {P : Program} {f : FuncId} {args : Array Value} {w : World} {x : After w} {v : Value}
  (h : Calls P f args x.val fun e w' => e = .returned v ∧ Below x.val.heap.size x.val w') : Calls P f args x.val fun e w'' => e = .returned v ∧ ∃ y : After w, w'' = y.val :=
 h.mono fun _ w' ⟨he, hb⟩ => ⟨he, ⟨w', below_then x.below hb⟩, rfl⟩
theorem one_bytes {P : Value → Prop} {v : Value} (h : P v) : ∀ u ∈ [v], P u := by
 intro u hu; rw [List.mem_singleton] at hu; subst hu; exact h
end Go.Proofs.YtmpjdoiogbbcoaaGreatDoor
/-
 DERIVED: THE SHELF's CONTRACTS AT THIS DUMP, IN PLAIN WORDS (tools/lay-plain.mjs out of 'TryzShelf.lean', which tools/lay-shelf.mjs wrote): THE SAME DECLARATIONS UNDER THE SAME NAMES: 'import', 'namespace', 'open', 'def', 'theorem' AND NOTHING ELSE: no command of the shelf's: FOR A HAND-IN. Each laying: the table of numbers ('.._ren') and one theorem, a field a fact of the dump's own or the kernel's comparison; each contract: ONE APPLICATION.
-/
namespace Go.Proofs
open Go.Shelf
def Tryz.lays169_ren : Go.Shelf.Ren := ⟨fun | 169 => 169 | n => n, fun | 70 => 240 | 9 => 9 | 0 => 0 | 72 => 242 | 37 => 59 | 127 => 276 | 3 => 3 | 5 => 5 | n => n, fun | n => n⟩
theorem Tryz.lays169 : Go.Proofs.Lays.n169 Tryz.prog Tryz.lays169_ren := {
 mixed := by kernel_rfl
 f169 := Tryz.func169.trans (congrArg some (by kernel_rfl))
 t0 := Tryz.underlying0
 a0 := Tryz.isAgg0
 z0 := Tryz.sizeOf0
 v0 := Tryz.zeroValue0
 t3 := Tryz.underlying3
 a3 := Tryz.isAgg3
 z3 := Tryz.sizeOf3
 v3 := Tryz.zeroValue3
 t9 := Tryz.underlying9
 a9 := Tryz.isAgg9
 z9 := Tryz.sizeOf9
 v9 := Tryz.zeroValue9
 t37 := Tryz.underlying59
 a37 := Tryz.isAgg59
 z37 := Tryz.sizeOf59
 v37 := Tryz.zeroValue59
 t70 := Tryz.underlying240
 a70 := Tryz.isAgg240
 z70 := Tryz.sizeOf240
 v70 := Tryz.zeroValue240
 t72 := Tryz.underlying242
 a72 := Tryz.isAgg242
 z72 := Tryz.sizeOf242
 v72 := Tryz.zeroValue242
 t127 := Tryz.underlying276
 a127 := Tryz.isAgg276
 z127 := Tryz.sizeOf276
 v127 := Tryz.zeroValue276 }
theorem Tryz.Builder_Extra_169 : Builder.Extra Tryz.prog Tryz.lays169_ren := {
 sizeBuilder := by kernel_rfl
 liesBuilder := by kernel_rfl
 t5 := Tryz.underlying5
 a5 := Tryz.isAgg5
 z5 := Tryz.sizeOf5
 v5 := Tryz.zeroValue5
 infoByte := by kernel_rfl
 cellsByte := by kernel_rfl
 sizeByte := by kernel_rfl
 neB5 := by decide }
open Go.RowKit in
/-- (*strings.Builder).String: "String returns the accumulated string.": WHATEVER THE BUILDER HOLDS. (LAID: no walk: one application.) -/
theorem Tryz.Builder_String_any (B b : Nat) (l : List UInt8) (w : World) (h : Lib.IsBuilder 242 5 B b (Lib.byteCells l) w) (hBw : B ≤ w.heap.size) :
    Calls Tryz.prog 169 #[.pointer (some ⟨b, 0, none⟩)] w fun e w' => e = .returned (.string ⟨l.toArray⟩) ∧ Below B w w' := Any.Builder_String_any Tryz.lays169 Tryz.Builder_Extra_169 B b l w h hBw
def Tryz.lays156_ren : Go.Shelf.Ren := ⟨fun | 156 => 125 | 165 => 188 | 166 => 166 | 169 => 169 | 240 => 209 | 241 => 225 | 276 => 241 | 277 => 259 | n => n, fun | 31 => 40 | 9 => 9 | 3 => 3 | 4 => 4 | 0 => 0 | 20 => 20 | 72 => 242 | 76 => 246 | 70 => 240 | 37 => 59 | 75 => 244 | 127 => 276 | 164 => 302 | 5 => 5 | 80 => 249 | n => n, fun | n => n⟩
theorem Tryz.lays156 : Go.Proofs.Lays.n156 Tryz.prog Tryz.lays156_ren := {
 mixed := by kernel_rfl
 f156 := Tryz.func125.trans (congrArg some (by kernel_rfl))
 f165 := Tryz.func188.trans (congrArg some (by kernel_rfl))
 f166 := Tryz.func166.trans (congrArg some (by kernel_rfl))
 f169 := Tryz.func169.trans (congrArg some (by kernel_rfl))
 f240 := Tryz.func209.trans (congrArg some (by kernel_rfl))
 f241 := Tryz.func225.trans (congrArg some (by kernel_rfl))
 f276 := Tryz.func241.trans (congrArg some (by kernel_rfl))
 f277 := Tryz.func259.trans (congrArg some (by kernel_rfl))
 t0 := Tryz.underlying0
 a0 := Tryz.isAgg0
 z0 := Tryz.sizeOf0
 v0 := Tryz.zeroValue0
 t3 := Tryz.underlying3
 a3 := Tryz.isAgg3
 z3 := Tryz.sizeOf3
 v3 := Tryz.zeroValue3
 t4 := Tryz.underlying4
 a4 := Tryz.isAgg4
 z4 := Tryz.sizeOf4
 v4 := Tryz.zeroValue4
 t9 := Tryz.underlying9
 a9 := Tryz.isAgg9
 z9 := Tryz.sizeOf9
 v9 := Tryz.zeroValue9
 t20 := Tryz.underlying20
 a20 := Tryz.isAgg20
 z20 := Tryz.sizeOf20
 v20 := Tryz.zeroValue20
 t31 := Tryz.underlying40
 a31 := Tryz.isAgg40
 z31 := Tryz.sizeOf40
 v31 := Tryz.zeroValue40
 t37 := Tryz.underlying59
 a37 := Tryz.isAgg59
 z37 := Tryz.sizeOf59
 v37 := Tryz.zeroValue59
 t70 := Tryz.underlying240
 a70 := Tryz.isAgg240
 z70 := Tryz.sizeOf240
 v70 := Tryz.zeroValue240
 t72 := Tryz.underlying242
 a72 := Tryz.isAgg242
 z72 := Tryz.sizeOf242
 v72 := Tryz.zeroValue242
 t75 := Tryz.underlying244
 a75 := Tryz.isAgg244
 z75 := Tryz.sizeOf244
 v75 := Tryz.zeroValue244
 t76 := Tryz.underlying246
 a76 := Tryz.isAgg246
 z76 := Tryz.sizeOf246
 v76 := Tryz.zeroValue246
 t127 := Tryz.underlying276
 a127 := Tryz.isAgg276
 z127 := Tryz.sizeOf276
 v127 := Tryz.zeroValue276
 t164 := Tryz.underlying302
 a164 := Tryz.isAgg302
 z164 := Tryz.sizeOf302
 v164 := Tryz.zeroValue302 }
theorem Tryz.Builder_Extra_156 : Builder.Extra Tryz.prog Tryz.lays156_ren := {
 sizeBuilder := by kernel_rfl
 liesBuilder := by kernel_rfl
 t5 := Tryz.underlying5
 a5 := Tryz.isAgg5
 z5 := Tryz.sizeOf5
 v5 := Tryz.zeroValue5
 infoByte := by kernel_rfl
 cellsByte := by kernel_rfl
 sizeByte := by kernel_rfl
 neB5 := by decide }
open Go.RowKit in
/-- No element: the empty string; the world is as it was. (Whatever the slice's address and capacity: a nil slice too.) (LAID: no walk: one application.) -/
theorem Tryz.strings_Join_none (a : Option Addr) (c : Nat) (sep : ByteArray) (w : World) :
    Calls Tryz.prog 125 #[.slice a 0 c, .string sep] w fun e w' => e = .returned (.string ⟨#[]⟩) ∧ w' = w := Any.strings_Join_none Tryz.lays156 Tryz.Builder_Extra_156 a c sep w
open Go.RowKit in
/-- strings.Join: "Join concatenates the elements of its first argument to create a single string. The separator string sep is placed between elements in the resulting string.": HOWEVER MANY ELEMENTS. Below the heap's end the world is as it was. (LAID: no walk: one application.) -/
theorem Tryz.strings_Join (bk o c : Nat) (xs : List ByteArray) (sep : ByteArray) (w : World) (hcells : ∀ (j : Nat) x, xs[j]? = some x → w.cell? ⟨bk, o + j, none⟩ = some (.string x)) (hbk : bk < w.heap.size) (hN : xs.length ≤ 140737488355328) (hcap : xs.length ≤ c) (hlen : (Lib.join (xs.map (·.data.toList)) sep.data.toList).length ≤ 140737488355328) :
    Calls Tryz.prog 125 #[.slice (some ⟨bk, o, none⟩) xs.length c, .string sep] w fun e w' => e = .returned (.string ⟨(Lib.join (xs.map (·.data.toList)) sep.data.toList).toArray⟩) ∧ Below w.heap.size w w' := Any.strings_Join Tryz.lays156 Tryz.Builder_Extra_156 bk o c xs sep w hcells hbk hN hcap hlen
def Tryz.lays106_ren : Go.Shelf.Ren := ⟨fun | 106 => 122 | 213 => 183 | 265 => 219 | n => n, fun | 9 => 9 | 3 => 3 | n => n, fun | n => n⟩
theorem Tryz.lays106 : Go.Proofs.Lays.n106 Tryz.prog Tryz.lays106_ren := {
 mixed := by kernel_rfl
 f106 := Tryz.func122.trans (congrArg some (by kernel_rfl))
 f213 := Tryz.func183.trans (congrArg some (by kernel_rfl))
 f265 := Tryz.func219.trans (congrArg some (by kernel_rfl))
 t3 := Tryz.underlying3
 a3 := Tryz.isAgg3
 z3 := Tryz.sizeOf3
 v3 := Tryz.zeroValue3
 t9 := Tryz.underlying9
 a9 := Tryz.isAgg9
 z9 := Tryz.sizeOf9
 v9 := Tryz.zeroValue9 }
open Go.RowKit in
/-- strings.Compare: "Compare returns an integer comparing two strings lexicographically. The result will be 0 if a == b, -1 if a < b, and +1 if a > b.": IT RETURNS 'Lib.compareBytes a b'; the world is as it was. (LAID: no walk: one application.) -/
theorem Tryz.strings_Compare (a b : ByteArray) (w : World) :
    Calls Tryz.prog 122 #[.string a, .string b] w fun e w' => e = .returned (.int .i64 (Lib.compareBytes a.data.toList b.data.toList)) ∧ w' = w := Any.strings_Compare Tryz.lays106 a b w
def Tryz.lays122_ren : Go.Shelf.Ren := ⟨fun | 122 => 121 | 215 => 182 | n => n, fun | 3 => 3 | 4 => 4 | n => n, fun | n => n⟩
theorem Tryz.lays122 : Go.Proofs.Lays.n122 Tryz.prog Tryz.lays122_ren := {
 mixed := by kernel_rfl
 f122 := Tryz.func121.trans (congrArg some (by kernel_rfl))
 f215 := Tryz.func182.trans (congrArg some (by kernel_rfl))
 t3 := Tryz.underlying3
 a3 := Tryz.isAgg3
 z3 := Tryz.sizeOf3
 v3 := Tryz.zeroValue3
 t4 := Tryz.underlying4
 a4 := Tryz.isAgg4
 z4 := Tryz.sizeOf4
 v4 := Tryz.zeroValue4 }
open Go.RowKit in
/-- cmp.Compare at int: "Compare returns -1 if x is less than y, 0 if x equals y, +1 if x is greater than y.": IT RETURNS 'Lib.compareInt x y'; the world is as it was. (LAID: no walk: one application.) -/
theorem Tryz.cmp_Compare_int (x y : Int) (w : World) :
    Calls Tryz.prog 121 #[.int .i64 x, .int .i64 y] w fun e w' => e = .returned (.int .i64 (Lib.compareInt x y)) ∧ w' = w := Any.cmp_Compare_int Tryz.lays122 x y w
def Tryz.lays144_ren : Go.Shelf.Ren := ⟨fun | 144 => 223 | 143 => 222 | 219 => 258 | 217 => 269 | 225 => 270 | 224 => 271 | 267 => 272 | 266 => 275 | 314 => 276 | n => n, fun | 9 => 9 | 4 => 4 | 3 => 3 | 5 => 5 | 46 => 53 | 146 => 331 | 51 => 195 | n => n, fun | 1 => 0 | n => n⟩
theorem Tryz.lays144 : Go.Proofs.Lays.n144 Tryz.prog Tryz.lays144_ren := {
 mixed := by kernel_rfl
 f143 := Tryz.func222.trans (congrArg some (by kernel_rfl))
 f144 := Tryz.func223.trans (congrArg some (by kernel_rfl))
 f217 := Tryz.func269.trans (congrArg some (by kernel_rfl))
 f219 := Tryz.func258.trans (congrArg some (by kernel_rfl))
 f224 := Tryz.func271.trans (congrArg some (by kernel_rfl))
 f225 := Tryz.func270.trans (congrArg some (by kernel_rfl))
 f266 := Tryz.func275.trans (congrArg some (by kernel_rfl))
 f267 := Tryz.func272.trans (congrArg some (by kernel_rfl))
 f314 := Tryz.func276.trans (congrArg some (by kernel_rfl))
 t3 := Tryz.underlying3
 a3 := Tryz.isAgg3
 z3 := Tryz.sizeOf3
 v3 := Tryz.zeroValue3
 t4 := Tryz.underlying4
 a4 := Tryz.isAgg4
 z4 := Tryz.sizeOf4
 v4 := Tryz.zeroValue4
 t5 := Tryz.underlying5
 a5 := Tryz.isAgg5
 z5 := Tryz.sizeOf5
 v5 := Tryz.zeroValue5
 t9 := Tryz.underlying9
 a9 := Tryz.isAgg9
 z9 := Tryz.sizeOf9
 v9 := Tryz.zeroValue9
 t46 := Tryz.underlying53
 a46 := Tryz.isAgg53
 z46 := Tryz.sizeOf53
 v46 := Tryz.zeroValue53
 t51 := Tryz.underlying195
 a51 := Tryz.isAgg195
 z51 := Tryz.sizeOf195
 v51 := Tryz.zeroValue195
 t146 := Tryz.underlying331
 a146 := Tryz.isAgg331
 z146 := Tryz.sizeOf331
 v146 := Tryz.zeroValue331
 g1 := by kernel_rfl }
open Go.RowKit Go.Lib in
/-- strings.Contains: "Contains reports whether substr is within s.": AT A substr OF ONE BYTE c: IT RETURNS 'decide (0 ≤ Lib.indexByte s c)'; the world is as it was. (LAID: no walk: one application.) -/
theorem Tryz.strings_Contains_one (s : ByteArray) (c : UInt8) (w : World) :
    Calls Tryz.prog 223 #[.string s, .string ⟨#[c]⟩] w fun e w' => e = .returned (.bool (decide (0 ≤ Lib.indexByte s.data.toList c))) ∧ w' = w := Any.strings_Contains_one Tryz.lays144 s c w
def Tryz.lays190_ren : Go.Shelf.Ren := ⟨fun | 190 => 48 | 125 => 75 | 258 => 95 | 128 => 134 | 129 => 135 | 302 => 151 | 303 => 152 | 304 => 153 | 305 => 154 | 306 => 155 | 307 => 156 | 308 => 157 | 309 => 158 | 310 => 159 | 333 => 202 | 329 => 190 | 330 => 191 | 334 => 203 | 335 => 204 | 336 => 194 | 344 => 237 | n => n, fun | 31 => 40 | 9 => 9 | 3 => 3 | 46 => 53 | 0 => 0 | 51 => 195 | 53 => 218 | 4 => 4 | 183 => 211 | 182 => 210 | 131 => 161 | 5 => 5 | 218 => 264 | 222 => 268 | 228 => 290 | 229 => 291 | n => n, fun | n => n⟩
theorem Tryz.lays190 : Go.Proofs.Lays.n190 Tryz.prog Tryz.lays190_ren := {
 mixed := by kernel_rfl
 f125 := Tryz.func75.trans (congrArg some (by kernel_rfl))
 f128 := Tryz.func134.trans (congrArg some (by kernel_rfl))
 f129 := Tryz.func135.trans (congrArg some (by kernel_rfl))
 f190 := Tryz.func48.trans (congrArg some (by kernel_rfl))
 f258 := Tryz.func95.trans (congrArg some (by kernel_rfl))
 f302 := Tryz.func151.trans (congrArg some (by kernel_rfl))
 f303 := Tryz.func152.trans (congrArg some (by kernel_rfl))
 f304 := Tryz.func153.trans (congrArg some (by kernel_rfl))
 f305 := Tryz.func154.trans (congrArg some (by kernel_rfl))
 f306 := Tryz.func155.trans (congrArg some (by kernel_rfl))
 f307 := Tryz.func156.trans (congrArg some (by kernel_rfl))
 f308 := Tryz.func157.trans (congrArg some (by kernel_rfl))
 f309 := Tryz.func158.trans (congrArg some (by kernel_rfl))
 f310 := Tryz.func159.trans (congrArg some (by kernel_rfl))
 f329 := Tryz.func190.trans (congrArg some (by kernel_rfl))
 f330 := Tryz.func191.trans (congrArg some (by kernel_rfl))
 f333 := Tryz.func202.trans (congrArg some (by kernel_rfl))
 f334 := Tryz.func203.trans (congrArg some (by kernel_rfl))
 f335 := Tryz.func204.trans (congrArg some (by kernel_rfl))
 f336 := Tryz.func194.trans (congrArg some (by kernel_rfl))
 f344 := Tryz.func237.trans (congrArg some (by kernel_rfl))
 t0 := Tryz.underlying0
 a0 := Tryz.isAgg0
 z0 := Tryz.sizeOf0
 v0 := Tryz.zeroValue0
 t3 := Tryz.underlying3
 a3 := Tryz.isAgg3
 z3 := Tryz.sizeOf3
 v3 := Tryz.zeroValue3
 t4 := Tryz.underlying4
 a4 := Tryz.isAgg4
 z4 := Tryz.sizeOf4
 v4 := Tryz.zeroValue4
 t5 := Tryz.underlying5
 a5 := Tryz.isAgg5
 z5 := Tryz.sizeOf5
 v5 := Tryz.zeroValue5
 t9 := Tryz.underlying9
 a9 := Tryz.isAgg9
 z9 := Tryz.sizeOf9
 v9 := Tryz.zeroValue9
 t31 := Tryz.underlying40
 a31 := Tryz.isAgg40
 z31 := Tryz.sizeOf40
 v31 := Tryz.zeroValue40
 t46 := Tryz.underlying53
 a46 := Tryz.isAgg53
 z46 := Tryz.sizeOf53
 v46 := Tryz.zeroValue53
 t51 := Tryz.underlying195
 a51 := Tryz.isAgg195
 z51 := Tryz.sizeOf195
 v51 := Tryz.zeroValue195
 t53 := Tryz.underlying218
 a53 := Tryz.isAgg218
 z53 := Tryz.sizeOf218
 v53 := Tryz.zeroValue218
 t131 := Tryz.underlying161
 a131 := Tryz.isAgg161
 z131 := Tryz.sizeOf161
 v131 := Tryz.zeroValue161
 t182 := Tryz.underlying210
 a182 := Tryz.isAgg210
 z182 := Tryz.sizeOf210
 v182 := Tryz.zeroValue210
 t183 := Tryz.underlying211
 a183 := Tryz.isAgg211
 z183 := Tryz.sizeOf211
 v183 := Tryz.zeroValue211
 t218 := Tryz.underlying264
 a218 := Tryz.isAgg264
 z218 := Tryz.sizeOf264
 v218 := Tryz.zeroValue264
 t222 := Tryz.underlying268
 a222 := Tryz.isAgg268
 z222 := Tryz.sizeOf268
 v222 := Tryz.zeroValue268
 t228 := Tryz.underlying290
 a228 := Tryz.isAgg290
 z228 := Tryz.sizeOf290
 v228 := Tryz.zeroValue290
 t229 := Tryz.underlying291
 a229 := Tryz.isAgg291
 z229 := Tryz.sizeOf291
 v229 := Tryz.zeroValue291 }
open Go.Sort Go.RowKit in
theorem Tryz.slices_Sort_string (blk off cap : Nat) (ss : List (List UInt8)) (w : World) (hH : Holds encStr w blk off ss.toArray) (hblk : blk < w.heap.size) (hsz : ss.length < 4611686018427387904) :
  Calls Tryz.prog 48 #[.slice (some ⟨blk, off, none⟩) ss.length cap] w fun e w' =>
   e = .returned (.tuple #[]) ∧ ∃ n os, w' = grow (putRow encStr (Sort.ahead w n) blk off (ss.mergeSort fun x y => decide (x ≤ y)).toArray) os := Any.slices_Sort_string Tryz.lays190 blk off cap ss w hH hblk hsz
def Tryz.lays99_ren : Go.Shelf.Ren := ⟨fun | 99 => 239 | 206 => 263 | n => n, fun | 9 => 9 | 4 => 4 | 3 => 3 | n => n, fun | n => n⟩
theorem Tryz.lays99 : Go.Proofs.Lays.n99 Tryz.prog Tryz.lays99_ren := {
 mixed := by kernel_rfl
 f99 := Tryz.func239.trans (congrArg some (by kernel_rfl))
 f206 := Tryz.func263.trans (congrArg some (by kernel_rfl))
 t3 := Tryz.underlying3
 a3 := Tryz.isAgg3
 z3 := Tryz.sizeOf3
 v3 := Tryz.zeroValue3
 t4 := Tryz.underlying4
 a4 := Tryz.isAgg4
 z4 := Tryz.sizeOf4
 v4 := Tryz.zeroValue4
 t9 := Tryz.underlying9
 a9 := Tryz.isAgg9
 z9 := Tryz.sizeOf9
 v9 := Tryz.zeroValue9 }
open Go.RowKit Go.Lib in
/-- strings.HasPrefix: "HasPrefix reports whether the string s begins with prefix.": IT RETURNS 'Lib.hasPrefix s prefix'; the world is as it was. (LAID: no walk: one application.) -/
theorem Tryz.strings_HasPrefix (s p : ByteArray) (w : World) :
    Calls Tryz.prog 239 #[.string s, .string p] w fun e w' => e = .returned (.bool (Lib.hasPrefix s.data.toList p.data.toList)) ∧ w' = w := Any.strings_HasPrefix Tryz.lays99 s p w
def Tryz.lays146_ren : Go.Shelf.Ren := ⟨fun | 146 => 123 | 221 => 184 | 268 => 220 | 138 => 221 | 143 => 222 | 195 => 255 | 197 => 256 | 218 => 257 | 219 => 258 | 260 => 268 | 217 => 269 | 225 => 270 | 224 => 271 | 267 => 272 | 266 => 275 | 314 => 276 | n => n, fun | 9 => 9 | 31 => 40 | 3 => 3 | 4 => 4 | 0 => 0 | 105 => 315 | 21 => 21 | 5 => 5 | 46 => 53 | 119 => 327 | 139 => 330 | 138 => 329 | 146 => 331 | 51 => 195 | n => n, fun | 1 => 0 | 3 => 1 | 4 => 2 | n => n⟩
theorem Tryz.lays146 : Go.Proofs.Lays.n146 Tryz.prog Tryz.lays146_ren := {
 mixed := by kernel_rfl
 f138 := Tryz.func221.trans (congrArg some (by kernel_rfl))
 f143 := Tryz.func222.trans (congrArg some (by kernel_rfl))
 f146 := Tryz.func123.trans (congrArg some (by kernel_rfl))
 f195 := Tryz.func255.trans (congrArg some (by kernel_rfl))
 f197 := Tryz.func256.trans (congrArg some (by kernel_rfl))
 f217 := Tryz.func269.trans (congrArg some (by kernel_rfl))
 f218 := Tryz.func257.trans (congrArg some (by kernel_rfl))
 f219 := Tryz.func258.trans (congrArg some (by kernel_rfl))
 f221 := Tryz.func184.trans (congrArg some (by kernel_rfl))
 f224 := Tryz.func271.trans (congrArg some (by kernel_rfl))
 f225 := Tryz.func270.trans (congrArg some (by kernel_rfl))
 f260 := Tryz.func268.trans (congrArg some (by kernel_rfl))
 f266 := Tryz.func275.trans (congrArg some (by kernel_rfl))
 f267 := Tryz.func272.trans (congrArg some (by kernel_rfl))
 f268 := Tryz.func220.trans (congrArg some (by kernel_rfl))
 f314 := Tryz.func276.trans (congrArg some (by kernel_rfl))
 t0 := Tryz.underlying0
 a0 := Tryz.isAgg0
 z0 := Tryz.sizeOf0
 v0 := Tryz.zeroValue0
 t3 := Tryz.underlying3
 a3 := Tryz.isAgg3
 z3 := Tryz.sizeOf3
 v3 := Tryz.zeroValue3
 t4 := Tryz.underlying4
 a4 := Tryz.isAgg4
 z4 := Tryz.sizeOf4
 v4 := Tryz.zeroValue4
 t5 := Tryz.underlying5
 a5 := Tryz.isAgg5
 z5 := Tryz.sizeOf5
 v5 := Tryz.zeroValue5
 t9 := Tryz.underlying9
 a9 := Tryz.isAgg9
 z9 := Tryz.sizeOf9
 v9 := Tryz.zeroValue9
 t21 := Tryz.underlying21
 a21 := Tryz.isAgg21
 z21 := Tryz.sizeOf21
 v21 := Tryz.zeroValue21
 t31 := Tryz.underlying40
 a31 := Tryz.isAgg40
 z31 := Tryz.sizeOf40
 v31 := Tryz.zeroValue40
 t46 := Tryz.underlying53
 a46 := Tryz.isAgg53
 z46 := Tryz.sizeOf53
 v46 := Tryz.zeroValue53
 t51 := Tryz.underlying195
 a51 := Tryz.isAgg195
 z51 := Tryz.sizeOf195
 v51 := Tryz.zeroValue195
 t105 := Tryz.underlying315
 a105 := Tryz.isAgg315
 z105 := Tryz.sizeOf315
 v105 := Tryz.zeroValue315
 t119 := Tryz.underlying327
 a119 := Tryz.isAgg327
 z119 := Tryz.sizeOf327
 t138 := Tryz.underlying329
 a138 := Tryz.isAgg329
 z138 := Tryz.sizeOf329
 v138 := Tryz.zeroValue329
 t139 := Tryz.underlying330
 a139 := Tryz.isAgg330
 z139 := Tryz.sizeOf330
 v139 := Tryz.zeroValue330
 t146 := Tryz.underlying331
 a146 := Tryz.isAgg331
 z146 := Tryz.sizeOf331
 v146 := Tryz.zeroValue331
 g1 := by kernel_rfl
 g3 := by kernel_rfl
 g4 := by kernel_rfl }
open Go.RowKit Go.Lib in
/-- strings.Split. (LAID: no walk: one application.) -/
theorem Tryz.strings_Split (s sep : ByteArray) (m : Int) (w : World) (hs : s.size < 4294967281) (hm : w.cell? ⟨0, 0, none⟩ = some (.int .i64 m)) (h1 : 1 ≤ sep.size) :
    Calls Tryz.prog 123 #[.string s, .string sep] w fun e w' =>
      e = .returned (.slice (some ⟨w.heap.size, 0, none⟩) (Lib.countB s sep + 1) (Lib.countB s sep + 1)) ∧ w' = w.alloc (.cells ((Lib.splitB sep 0 (Lib.countB s sep) s).map Value.string).toArray 9) := Any.strings_Split Tryz.lays146 (by kernel_rfl) s sep m w hs hm h1
def Tryz.lays110_ren : Go.Shelf.Ren := ⟨fun | 110 => 208 | 109 => 240 | n => n, fun | 31 => 40 | 9 => 9 | 4 => 4 | 3 => 3 | 0 => 0 | n => n, fun | n => n⟩
theorem Tryz.lays110 : Go.Proofs.Lays.n110 Tryz.prog Tryz.lays110_ren := {
 mixed := by kernel_rfl
 f109 := Tryz.func240.trans (congrArg some (by kernel_rfl))
 f110 := Tryz.func208.trans (congrArg some (by kernel_rfl))
 t0 := Tryz.underlying0
 a0 := Tryz.isAgg0
 z0 := Tryz.sizeOf0
 v0 := Tryz.zeroValue0
 t3 := Tryz.underlying3
 a3 := Tryz.isAgg3
 z3 := Tryz.sizeOf3
 v3 := Tryz.zeroValue3
 t4 := Tryz.underlying4
 a4 := Tryz.isAgg4
 z4 := Tryz.sizeOf4
 v4 := Tryz.zeroValue4
 t9 := Tryz.underlying9
 a9 := Tryz.isAgg9
 z9 := Tryz.sizeOf9
 v9 := Tryz.zeroValue9
 t31 := Tryz.underlying40
 a31 := Tryz.isAgg40
 z31 := Tryz.sizeOf40
 v31 := Tryz.zeroValue40 }
open Go.Lib in
/-- slices.Contains at []string: "Contains reports whether v is present in s.": IT RETURNS 'Lib.containsS (the elements) v', which is true just where v is among them ('Lib.containsS_iff'); the world is as it was. ITS CALLEE slices.Index IS MET BY ITS OWN CONTRACT OFF THE SHELF (lay that first): no loop is walked here. (LAID: no walk: one application.) -/
theorem Tryz.slices_Contains_string (b off n c : Nat) (zs : List ByteArray) (x : ByteArray) (w : World) (hz : n ≤ zs.length) (hbig : n ≤ 9223372036854775807) (hc : ∀ j, j < zs.length → w.cell? ⟨b, off + j, none⟩ = some (.string (zs.getD j ByteArray.empty))) :
    Calls Tryz.prog 208 #[.slice (some ⟨b, off, none⟩) n c, .string x] w fun e w' => e = .returned (.bool (Lib.containsS (zs.take n) x)) ∧ w' = w := Any.slices_Contains_string Tryz.lays110 b off n c zs x w hz hbig hc
open Go.Lib in
/-- The same at a slice of length 0, a nil one too. (LAID: no walk: one application.) -/
theorem Tryz.slices_Contains_string_empty (a : Option Addr) (c : Nat) (x : ByteArray) (w : World) :
    Calls Tryz.prog 208 #[.slice a 0 c, .string x] w fun e w' => e = .returned (.bool false) ∧ w' = w := Any.slices_Contains_string_empty Tryz.lays110 a c x w
def Tryz.lays113_ren : Go.Shelf.Ren := ⟨fun | 113 => 104 | n => n, fun | 28 => 52 | 3 => 3 | 4 => 4 | 9 => 9 | 20 => 20 | 0 => 0 | n => n, fun | n => n⟩
theorem Tryz.lays113 : Go.Proofs.Lays.n113 Tryz.prog Tryz.lays113_ren := {
 mixed := by kernel_rfl
 f113 := Tryz.func104.trans (congrArg some (by kernel_rfl))
 t0 := Tryz.underlying0
 a0 := Tryz.isAgg0
 z0 := Tryz.sizeOf0
 v0 := Tryz.zeroValue0
 t3 := Tryz.underlying3
 a3 := Tryz.isAgg3
 z3 := Tryz.sizeOf3
 v3 := Tryz.zeroValue3
 t4 := Tryz.underlying4
 a4 := Tryz.isAgg4
 z4 := Tryz.sizeOf4
 v4 := Tryz.zeroValue4
 t9 := Tryz.underlying9
 a9 := Tryz.isAgg9
 z9 := Tryz.sizeOf9
 v9 := Tryz.zeroValue9
 t20 := Tryz.underlying20
 a20 := Tryz.isAgg20
 z20 := Tryz.sizeOf20
 v20 := Tryz.zeroValue20
 t28 := Tryz.underlying52
 a28 := Tryz.isAgg52
 z28 := Tryz.sizeOf52
 v28 := Tryz.zeroValue52 }
open Go.Lib in
/-- slices.Max at []int: "Max returns the maximal value in x. It panics if x is empty.": OF A SLICE THAT IS NOT EMPTY IT RETURNS 'Lib.maxOf (the elements)'; the world is as it was. (Of an empty one it panics: no contract here.) (LAID: no walk: one application.) -/
theorem Tryz.slices_Max_int (b off n c : Nat) (zs : List Int) (w : World) (hn : 0 < n) (hz : n ≤ zs.length) (hbig : n ≤ 9223372036854775807) (hc : ∀ j, j < zs.length → w.cell? ⟨b, off + j, none⟩ = some (.int .i64 (zs.getD j 0))) :
    Calls Tryz.prog 104 #[.slice (some ⟨b, off, none⟩) n c] w fun e w' => e = .returned (.int .i64 (Lib.maxOf (zs.take n))) ∧ w' = w := Any.slices_Max_int Tryz.lays113 b off n c zs w hn hz hbig hc
def Tryz.laysNm216_ren : Go.Shelf.Ren := ⟨fun | 16 => 47 | n => n, fun | 24 => 40 | 9 => 9 | 4 => 4 | n => n, fun | n => n⟩
theorem Tryz.laysNm216 : Go.Proofs.Lays2.n16 Tryz.prog Tryz.laysNm216_ren := {
 mixed := by kernel_rfl
 f16 := Tryz.func47.trans (congrArg some (by kernel_rfl))
 t4 := Tryz.underlying4
 a4 := Tryz.isAgg4
 z4 := Tryz.sizeOf4
 v4 := Tryz.zeroValue4
 t9 := Tryz.underlying9
 a9 := Tryz.isAgg9
 z9 := Tryz.sizeOf9
 v9 := Tryz.zeroValue9
 t24 := Tryz.underlying40
 a24 := Tryz.isAgg40
 z24 := Tryz.sizeOf40
 v24 := Tryz.zeroValue40
 i9 := by kernel_rfl }
open Go.RowKit Go.Lib in
/-- slices.Clone at []string: "Clone returns a copy of the slice. The elements are copied using assignment, so this is a shallow clone. The result may have additional unused capacity. The result preserves the nilness of s.": OF A SLICE THAT IS NOT nil IT RETURNS A SLICE THAT IS NOT nil, OF THE SAME ELEMENTS, IN MEMORY OF THE CALL's OWN: in the how-to's words (6f): 'w'.ownsRow B e 1 v' n cells': v' begins at the head of a row among the blocks from B on (B: the heap's size at the call), not frozen, whose first cells are the elements · 'Below B w w'': below B all is as it was. The capacity is whatever the run-time gives. 'zs': what the cells behind the slice's address hold; 'zs.take n': its elements. (LAID: no walk: one application.) -/
theorem Tryz.slices_Clone_string (b off n c : Nat) (zs : List ByteArray) (w : World) (hz : n ≤ zs.length) (hbig : n * 16 ≤ 140737488355328) (hc : ∀ j, j < zs.length → w.cell? ⟨b, off + j, none⟩ = some (.string (zs.getD j ByteArray.empty))) :
    Calls Tryz.prog 47 #[.slice (some ⟨b, off, none⟩) n c] w fun e w' => ∃ v', e = .returned v' ∧ w'.ownsRow w.heap.size 9 1 v' n ((zs.take n).map (Value.string)) ∧ v' ≠ .slice none 0 0 ∧ Below w.heap.size w w' := Any.slices_Clone_string Tryz.laysNm216 b off n c zs w hz hbig hc
open Go.RowKit Go.Lib in
/-- The same at nil: nil comes back; the world is as it was. (LAID: no walk: one application.) -/
theorem Tryz.slices_Clone_string_nil (n c : Nat) (w : World) :
    Calls Tryz.prog 47 #[.slice none n c] w fun e w' => e = .returned (.slice none 0 0) ∧ w' = w := Any.slices_Clone_string_nil Tryz.laysNm216 n c w
open Go.RowKit Go.Lib in
/-- The same at a slice of length 0 that is not nil, WHATEVER ITS ADDRESS (no cell is asked for): a slice that is not nil and owns nothing comes back. (LAID: no walk: one application.) -/
theorem Tryz.slices_Clone_string_zero (a : Addr) (c : Nat) (w : World) :
    Calls Tryz.prog 47 #[.slice (some a) 0 c] w fun e w' => ∃ v', e = .returned v' ∧ w'.ownsRow w.heap.size 9 1 v' 0 [] ∧ v' ≠ .slice none 0 0 ∧ Below w.heap.size w w' := Any.slices_Clone_string_zero Tryz.laysNm216 a c w
def Tryz.lays194_ren : Go.Shelf.Ren := ⟨fun | 194 => 49 | n => n, fun | 31 => 40 | 9 => 9 | 3 => 3 | 4 => 4 | 0 => 0 | n => n, fun | n => n⟩
theorem Tryz.lays194 : Go.Proofs.Lays.n194 Tryz.prog Tryz.lays194_ren := {
 mixed := by kernel_rfl
 f194 := Tryz.func49.trans (congrArg some (by kernel_rfl))
 t0 := Tryz.underlying0
 a0 := Tryz.isAgg0
 z0 := Tryz.sizeOf0
 v0 := Tryz.zeroValue0
 t3 := Tryz.underlying3
 a3 := Tryz.isAgg3
 z3 := Tryz.sizeOf3
 v3 := Tryz.zeroValue3
 t4 := Tryz.underlying4
 a4 := Tryz.isAgg4
 z4 := Tryz.sizeOf4
 v4 := Tryz.zeroValue4
 t9 := Tryz.underlying9
 a9 := Tryz.isAgg9
 z9 := Tryz.sizeOf9
 v9 := Tryz.zeroValue9
 t31 := Tryz.underlying40
 a31 := Tryz.isAgg40
 z31 := Tryz.sizeOf40
 v31 := Tryz.zeroValue40 }
open Go.RowKit Go.Lib Go.Sort in
/-- slices.Compact at []string: "Compact replaces consecutive runs of equal elements with a single copy. This is like the uniq command found on Unix. Compact modifies the contents of the slice s and returns the modified slice, which may have a smaller length. Compact zeroes the elements between the new length and the original length. The result preserves the nilness of s.": IT RETURNS THE SLICE CUT TO 'Lib.compact zs'; ITS CELLS HOLD 'Lib.compact zs', THEN ZERO VALUES up to the old length; all else is as it was, but for the count of draws. IN THE WORDS OF slices.Sort's CONTRACT ('Holds', 'putRow'): so the everyday 'slices.Sort(xs); xs = slices.Compact(xs)' goes from the one contract to the other. It asks 'zs.length ≤ cap' (every slice's: the reslicing 's[:k]' looks at it). Length 0, nil: '.._empty'. (LAID: no walk: one application.) -/
theorem Tryz.slices_Compact_string (blk off cap : Nat) (zs : List (List UInt8)) (w : World) (hH : Holds encStr w blk off zs.toArray) (hsz : zs.length ≤ 9223372036854775807) (hcap : zs.length ≤ cap) :
    Calls Tryz.prog 49 #[.slice (some ⟨blk, off, none⟩) zs.length cap] w fun e w' => e = .returned (.slice (some ⟨blk, off, none⟩) (Lib.compact zs).length cap) ∧ ∃ q, w' = putRow encStr (Sort.ahead w q) blk off (Lib.compact zs ++ List.replicate (zs.length - (Lib.compact zs).length) []).toArray := Any.slices_Compact_string Tryz.lays194 blk off cap zs w hH hsz hcap
open Go.RowKit Go.Lib Go.Sort in
/-- The same at a slice of length 0, a nil one too: it comes back as it is. (LAID: no walk: one application.) -/
theorem Tryz.slices_Compact_string_empty (a : Option Addr) (cap : Nat) (w : World) :
    Calls Tryz.prog 49 #[.slice a 0 cap] w fun e w' => e = .returned (.slice a 0 cap) ∧ w' = w := Any.slices_Compact_string_empty Tryz.lays194 a cap w
open Go.RowKit Go.Sort in
/-- .. and plain. (LAID: no walk: one application.) -/
theorem Tryz.slices_Sort_string_none (p : Option Addr) (cap : Nat) (w : World) :
    Calls Tryz.prog 48 #[.slice p 0 cap] w fun e w' => e = .returned (.tuple #[]) ∧ w' = w := Any.slices_Sort_string_none Tryz.lays190 p cap w
end Go.Proofs
/- A slice of strings in memory; slices.Contains over it; a slice of strings of the call's own. -/
namespace Go.Proofs.YtmpjdoiogbbcoaaGreatDoor
open Go.RowKit
set_option linter.unusedVariables false

/-- the slice with the base a and n places reads as the list l -/
def StrsAt (w : World) (a : Option Addr) (n : Nat) (l : List ByteArray) : Prop :=
 l.length = n ∧ n ≤ 9223372036854775807 ∧ (n = 0 ∨ ∃ b off, a = some ⟨b, off, none⟩ ∧ ∀ j, j < n → w.cell? ⟨b, off + j, none⟩ = some (.string (l.getD j ByteArray.empty)))
theorem StrsAt.later {w w' : World} {a : Option Addr} {n : Nat} {l : List ByteArray} (h : StrsAt w a n l) (hb : Below w.heap.size w w') : StrsAt w' a n l := by
 obtain ⟨h1, h2, h3⟩ := h
 refine ⟨h1, h2, h3.imp id ?_⟩
 rintro ⟨b, off, ha, hc⟩
 refine ⟨b, off, ha, fun j hj => ?_⟩
 have h4 := hc j hj
 rw [hb.cell (p := ⟨b, off + j, none⟩) (World.block_lt_of_cell? w _ h4)]
 exact h4
def svals (l : List ByteArray) : List Value := l.map Value.string
theorem svals_append (l r : List ByteArray) : svals (l ++ r) = svals l ++ svals r := by simp [svals]
theorem own_strs {w : World} {B : Nat} {v : Value} {l : List ByteArray} (h : w.ownsRow B 9 1 v l.length (svals l)) (hm : l.length ≤ 9223372036854775807) :
  ∃ a c, v = .slice a l.length c ∧ StrsAt w a l.length l := by
 have h' := h
 rcases h.2 with ⟨rfl, h0⟩ | ⟨g, cap, cur, rfl, hb, hg, hn, hc, hsz, htk⟩
 ·exact ⟨none, 0, by rw [h0], rfl, by omega, .inl h0⟩
 ·refine ⟨_, _, rfl, rfl, hm, .inr ⟨g, 0, rfl, fun j hj => ?_⟩⟩
  have h1 := h'.cellAt j (by omega)
  rw [Nat.zero_add, h1]
  simp [svals, List.getElem?_eq_getElem hj]
theorem Tryz.infoS : (Tryz.prog.info? 9).map (fun i => (i.zero, i.size, i.bytes)) = some (some (.string ⟨#[]⟩), 1, 16) := by kernel_rfl

theorem contains_any (a : Option Addr) (n c : Nat) (l : List ByteArray) (x : ByteArray) (w : World) (h : StrsAt w a n l) :
  Calls Tryz.prog 208 #[.slice a n c, .string x] w fun e w' => e = .returned (.bool (decide (∃ o ∈ l, o = x))) ∧ w = w' := by
 obtain ⟨h1, h2, h3⟩ := h
 have hm : ∀ q : Bool, (q = true ↔ x ∈ l) → q = decide (∃ o ∈ l, o = x) := fun q hq => by
  rw [Bool.eq_iff_iff, hq]; simp
 rcases h3 with rfl | ⟨b, off, rfl, hc⟩
 ·obtain rfl : l = [] := List.length_eq_zero_iff.1 h1
  refine (Tryz.slices_Contains_string_empty a c x w).mono ?_
  rintro e w' ⟨rfl, hw⟩
  exact ⟨ret_bool (hm _ (by simp)), hw.symm⟩
 ·refine (Tryz.slices_Contains_string b off n c l x w (by omega) h2 (fun j hj => hc j (by omega))).mono ?_
  rintro e w' ⟨rfl, hw⟩
  exact ⟨ret_bool (hm _ (by rw [List.take_of_length_le (by omega)]; exact Lib.containsS_iff l x)), hw.symm⟩
end Go.Proofs.YtmpjdoiogbbcoaaGreatDoor
/- Good, check, Split, Join of the program; slices.IndexFunc, ContainsFunc over a slice of strings at a function value that may make memory. -/
namespace Go.Proofs.YtmpjdoiogbbcoaaGreatDoor
open Go.RowKit Pap
set_option linter.unusedVariables false

theorem goodL_yes {s : ByteArray} (h0 : s.size ≠ 0) (h1 : s.size ≤ 255) (h2 : s ≠ ⟨#[46]⟩) (h3 : s ≠ ⟨#[46, 46]⟩) : goodL s.data.toList = (decide (47 ∉ s.data.toList) && decide (0 ∉ s.data.toList)) := by
 have hl : s.data.toList.length = s.size := by simp
 have e2 : s.data.toList ≠ [46] := fun e => h2 (ba_ext (y := ⟨#[46]⟩) e)
 have e3 : s.data.toList ≠ [46, 46] := fun e => h3 (ba_ext (y := ⟨#[46, 46]⟩) e)
 unfold goodL
 rw [Bool.eq_iff_iff, Bool.and_eq_true, decide_eq_true_eq, decide_eq_true_eq, decide_eq_true_eq]
 constructor
 ·rintro ⟨_, _, _, _, h5, h6⟩; exact ⟨h5, h6⟩
 ·rintro ⟨h5, h6⟩; exact ⟨by omega, by omega, e2, e3, h5, h6⟩
theorem goodL_no {s : ByteArray} (h : s.size = 0 ∨ 255 < s.size ∨ s = ⟨#[46]⟩ ∨ s = ⟨#[46, 46]⟩) : goodL s.data.toList = false := by
 have hl : s.data.toList.length = s.size := by simp
 unfold goodL
 rcases h with h | h | rfl | rfl
 ·simp; omega
 ·simp; omega
 ·simp
 ·simp
theorem not_mem_idx (l : List UInt8) (c : UInt8) : (!decide (0 ≤ Lib.indexByte l c)) = decide (c ∉ l) := by
 have h := Lib.contains_iff_indexByte l c
 rw [← h, Bool.eq_iff_iff]; simp

set_option maxHeartbeats 1000000 in
theorem pgood_any (s : ByteArray) (w : World) : Calls Tryz.prog 186 #[.string s] w fun e w' => e = .returned (.bool (goodL s.data.toList)) ∧ w = w' := by
 by_cases h0 : s.size = 0
 ·have HX := hid (goodL_no (s := s) (.inl h0))
  have n1 := bstr_nil h0
  go_enter Tryz.func186, Tryz.ntmps186
  go_wp2_with fail
  go_ret
  exact ⟨ret_bool (by rw [HX.out]), rfl⟩
 ·have n1 := bstr_some h0
  have n2 := bstr_isEmpty h0
  by_cases h1 : s = ⟨#[46]⟩
  ·have HX := hid (goodL_no (s := s) (.inr (.inr (.inl h1))))
   have n3 : s.toList = [46] := by rw [ba_toList, h1]
   have n4 : (s.toList == [46]) = true := by rw [n3]; rfl
   clear h1
   go_enter Tryz.func186, Tryz.ntmps186
   go_wp2_with fail
   go_ret
   exact ⟨ret_bool (by rw [HX.out]), rfl⟩
  ·have m1 : (s.toList == [46]) = false := by
    rw [beq_eq_false_iff_ne, ba_toList]; exact fun e => h1 (ba_ext (y := ⟨#[46]⟩) e)
   have m1' : ¬ s.toList = [46] := by rw [ba_toList]; exact fun e => h1 (ba_ext (y := ⟨#[46]⟩) e)
   by_cases h2 : s = ⟨#[46, 46]⟩
   ·have HX := hid (goodL_no (s := s) (.inr (.inr (.inr h2))))
    have n3 : s.toList = [46, 46] := by rw [ba_toList, h2]
    clear h1 h2
    go_enter Tryz.func186, Tryz.ntmps186
    go_wp2_with fail
    go_ret
    exact ⟨ret_bool (by rw [HX.out]), rfl⟩
   ·have m2 : (s.toList == [46, 46]) = false := by
     rw [beq_eq_false_iff_ne, ba_toList]; exact fun e => h2 (ba_ext (y := ⟨#[46, 46]⟩) e)
    have m2' : ¬ s.toList = [46, 46] := by rw [ba_toList]; exact fun e => h2 (ba_ext (y := ⟨#[46, 46]⟩) e)
    by_cases h255 : s.size ≤ 255
    ·have HX := hid (goodL_yes h0 h255 h1 h2)
     have H0 := hid (not_mem_idx s.data.toList 47)
     have H1 := hid (not_mem_idx s.data.toList 0)
     clear h1 h2
     go_enter Tryz.func186, Tryz.ntmps186
     go_wp2_with (first
      | (go_at_call 223; refine (Tryz.strings_Contains_one _ _ _).mono ?_; rintro e w1 ⟨rfl, hw⟩; obtain rfl := hw.symm))
     ·go_ret
      exact ⟨ret_bool (by rw [HX.out, ← H0.out, ← H1.out]), rfl⟩
     ·go_ret
      exact ⟨ret_bool (by rw [HX.out, ← H0.out, decide_eq_true ‹_›]; rfl), rfl⟩
    ·have HX := hid (goodL_no (s := s) (.inr (.inl (by omega))))
     have d255 : ¬ (s.size : Int) ≤ 255 := by omega
     clear h1 h2
     go_enter Tryz.func186, Tryz.ntmps186
     go_wp2_with fail
     go_ret
     exact ⟨ret_bool (by rw [HX.out]), rfl⟩

theorem checkClos_any (s : ByteArray) (w : World) : Calls Tryz.prog 185 #[.string s] w fun e w' => e = .returned (.bool (!goodL s.data.toList)) ∧ w = w' := by
 go_enter Tryz.func185, Tryz.ntmps185
 go_wp2_with (go_at_call 186; refine (pgood_any _ _).mono ?_; rintro e w1 ⟨rfl, rfl⟩)
 go_ret
 exact ⟨rfl, rfl⟩

/-- the place of the first that it is true of -/
def idxP (p : ByteArray → Bool) (l : List ByteArray) : Int := if l.any p then (((l.findIdx p : Nat)) : Int) else -1
theorem idxP_hit {p : ByteArray → Bool} {l : List ByteArray} {k : Nat} (hk : k < l.length) (h : ∀ j, j < k → p (l.getD j ByteArray.empty) = false) (hp : p (l.getD k ByteArray.empty) = true) : idxP p l = (k : Int) := by
 have hg : ∀ j, (hj : j < l.length) → l.getD j ByteArray.empty = l[j] := fun j hj => by rw [List.getD_eq_getElem?_getD, List.getElem?_eq_getElem hj]; rfl
 have hf : l.findIdx p = k := by
  rw [List.findIdx_eq hk]
  rw [hg k hk] at hp
  exact ⟨hp, fun j hj => by have := h j hj; rwa [hg j (by omega)] at this⟩
 unfold idxP
 rw [if_pos (List.any_eq_true.2 ⟨l[k], List.getElem_mem _, by rw [← hg k hk]; exact hp⟩), hf]
theorem idxP_miss {p : ByteArray → Bool} {l : List ByteArray} (h : ∀ j, j < l.length → p (l.getD j ByteArray.empty) = false) : idxP p l = -1 := by
 unfold idxP
 rw [if_neg]
 intro ha
 obtain ⟨x, hx, hp⟩ := List.any_eq_true.1 ha
 obtain ⟨j, hj, rfl⟩ := List.getElem_of_mem hx
 have := h j hj
 rw [List.getD_eq_getElem?_getD, List.getElem?_eq_getElem hj] at this
 simp only [Option.getD_some] at this
 rw [this] at hp; cases hp
theorem idxP_any (p : ByteArray → Bool) (l : List ByteArray) : decide (0 ≤ idxP p l) = l.any p := by
 unfold idxP
 cases h : l.any p
 ·simp
 ·simp
theorem upto_succ {p : Nat → Prop} {k : Nat} (h : ∀ j, j < k → p j) (hk : p k) : ∀ j, j < k + 1 → p j := fun j hj => by
 rcases Nat.lt_succ_iff_lt_or_eq.1 hj with h1 | rfl
 ·exact h j h1
 ·exact hk

set_option maxHeartbeats 1000000 in
theorem indexFunc_grows (g : Nat) (lb : Array Value) (eg : ∀ args w, (callFunc g args).run Tryz.prog w = .ok (.enter g args) w) (p : ByteArray → Bool) (a : Option Addr) (n c : Nat) (l : List ByteArray) (w : World) (hS : StrsAt w a n l)
  (hp : ∀ W, Below w.heap.size w W → ∀ x ∈ l, Calls Tryz.prog g (#[.string x] ++ lb) W fun e w' => e = .returned (.bool (p x)) ∧ Below W.heap.size W w') :
  Calls Tryz.prog 224 #[.slice a n c, .func (.func g) #[] lb] w fun e w' => e = .returned (.int .i64 (idxP p l)) ∧ Below w.heap.size w w' := by
 have hl := hS.1
 have hm := hS.2.1
 have HP := hid hp; clear hp
 go_enter Tryz.func224, Tryz.ntmps224
 go_wp2
 go_loopw [8] (fun i wr => ∃ k : Nat, k ≤ n ∧ i = .int .i64 k ∧ Below w.heap.size w wr ∧ Hid (∀ j, j < k → p (l.getD j ByteArray.empty) = false)) (fun i _ => n - (intOf i).toNat)
 case atStart => exact ⟨0, by omega, rfl, Below.refl _ _, fun j hj => absurd hj (Nat.not_lt_zero _)⟩
 case round =>
  obtain ⟨k, hk, rfl, hbel, HK⟩ := hrel
  by_cases hlt : k < n
  ·have hSr := hS.later hbel
   obtain ⟨b, off, rfl, hc⟩ := hSr.2.2.resolve_left (by omega)
   have hck := hc k hlt
   have hmem : l.getD k ByteArray.empty ∈ l := by rw [List.getD_eq_getElem?_getD, List.getElem?_eq_getElem (by omega)]; exact List.getElem_mem _
   obtain ⟨x, hx⟩ : ∃ x, l.getD k ByteArray.empty = x := ⟨_, rfl⟩
   rw [hx] at hck hmem
   have cS := HP.out wr hbel x hmem
   have HXE := hid hx
   clear hx hc
   cases hpx : p x
   ·rw [hpx] at cS
    have HPX := hid hpx; clear hpx
    have CS := hid cS; clear cS
    go_wp2_with (first | (go_at_fn g; refine CS.out.mono ?_; rintro e w1 ⟨rfl, hb1⟩))
    go_roundw
    case rel => exact ⟨k + 1, by omega, by go_num, below_then hbel hb1, upto_succ HK.out (by rw [HXE.out]; exact HPX.out)⟩
    case measure => simp [intOf]; omega
   ·rw [hpx] at cS
    have HR : Hid (idxP p l = (k : Int)) := idxP_hit (by omega) HK.out (by rw [HXE.out]; exact hpx)
    clear hpx
    have CS := hid cS; clear cS
    go_wp2_with (first | (go_at_fn g; refine CS.out.mono ?_; rintro e w1 ⟨rfl, hb1⟩))
    go_ret
    exact ⟨ret_int (by rw [HR.out]), below_then hbel hb1⟩
  ·have HR : Hid (idxP p l = -1) := idxP_miss (fun j hj => HK.out j (by omega))
   go_wp2
   go_ret
   exact ⟨ret_int (by rw [HR.out]), hbel⟩
theorem containsFunc_grows (g : Nat) (lb : Array Value) (eg : ∀ args w, (callFunc g args).run Tryz.prog w = .ok (.enter g args) w) (p : ByteArray → Bool) (a : Option Addr) (n c : Nat) (l : List ByteArray) (w : World) (hS : StrsAt w a n l)
  (hp : ∀ W, Below w.heap.size w W → ∀ x ∈ l, Calls Tryz.prog g (#[.string x] ++ lb) W fun e w' => e = .returned (.bool (p x)) ∧ Below W.heap.size W w') :
  Calls Tryz.prog 187 #[.slice a n c, .func (.func g) #[] lb] w fun e w' => e = .returned (.bool (l.any p)) ∧ Below w.heap.size w w' := by
 have c := indexFunc_grows g lb eg p a n c l w hS hp
 rw [← idxP_any]
 obtain ⟨I, hI⟩ : ∃ I, idxP p l = I := ⟨_, rfl⟩
 rw [hI] at c ⊢
 have C := hid c; clear c hI hp
 go_enter Tryz.func187, Tryz.ntmps187
 go_wp2_with (go_at_call 224; refine C.out.mono ?_; rintro e w1 ⟨rfl, hb⟩)
 go_ret
 exact ⟨rfl, hb⟩
end Go.Proofs.YtmpjdoiogbbcoaaGreatDoor
/- check, Split, Join, Compare, Within of the program. -/
namespace Go.Proofs.YtmpjdoiogbbcoaaGreatDoor
open Go.RowKit Pap
set_option linter.unusedVariables false

def ls (l : List ByteArray) : List (List UInt8) := l.map (·.data.toList)
theorem ls_length (l : List ByteArray) : (ls l).length = l.length := by simp [ls]
/-- the library's variable that says how long a text may be that is searched by rule -/
def MaxAt (w : World) : Prop := ∃ m, w.cell? ⟨0, 0, none⟩ = some (.int .i64 m)
theorem MaxAt.later {w w' : World} (h : MaxAt w) (hb : Below w.heap.size w w') : MaxAt w' := by
 obtain ⟨m, hm⟩ := h
 refine ⟨m, ?_⟩
 rw [hb.cell (p := ⟨0, 0, none⟩) (World.block_lt_of_cell? w _ hm)]; exact hm
theorem any_bad (l : List ByteArray) : l.any (fun x => !goodL x.data.toList) = true ↔ ∃ x ∈ ls l, goodL x = false := by
 rw [List.any_eq_true]
 constructor
 ·rintro ⟨x, hx, h⟩; exact ⟨_, List.mem_map.2 ⟨x, hx, rfl⟩, by simpa using h⟩
 ·rintro ⟨y, hy, h⟩
  obtain ⟨x, hx, rfl⟩ := List.mem_map.1 hy
  exact ⟨x, hx, by simpa using h⟩

set_option maxHeartbeats 1000000 in
set_option maxRecDepth 100000 in
theorem check_any (a : Option Addr) (n c : Nat) (l : List ByteArray) (w : World) (hS : StrsAt w a n l) :
  Calls Tryz.prog 124 #[.slice a n c] w fun e w' => e = .returned (.int .i64 (checkE (ls l))) ∧ Below w.heap.size w w' := by
 have hl := hS.1
 have cc := containsFunc_grows 185 #[] (fun args w => rfl) (fun x => !goodL x.data.toList) a n c l w hS
  (fun W _ x _ => (checkClos_any x W).mono fun e w' h => ⟨h.1, by obtain ⟨_, rfl⟩ := h; exact Below.refl _ _⟩)
 by_cases h0 : n = 0
 ·have HX : Hid (checkE (ls l) = 30) := by
   unfold Hid checkE; rw [if_pos (.inl (List.length_eq_zero_iff.1 (by rw [ls_length]; omega)))]
  have hb : ((n : Int) == 0) = true := by simp; omega
  clear cc
  go_enter Tryz.func124, Tryz.ntmps124
  go_wp2
  go_ret
  exact ⟨ret_int (by rw [HX.out]), Below.refl _ _⟩
 ·have hb : ((n : Int) == 0) = false := by simp; omega
  by_cases hany : l.any (fun x => !goodL x.data.toList) = true
  ·have HX : Hid (checkE (ls l) = 30) := by unfold Hid checkE; rw [if_pos (.inr ((any_bad l).1 hany))]
   rw [hany] at cc
   have CC := hid cc; clear cc hany
   go_enter Tryz.func124, Tryz.ntmps124
   go_wp2_with (go_at_call 187; refine CC.out.mono ?_; rintro e w1 ⟨rfl, hb1⟩)
   go_ret
   exact ⟨ret_int (by rw [HX.out]), hb1⟩
  ·have hf : l.any (fun x => !goodL x.data.toList) = false := by simpa using hany
   have hno : ¬ (ls l = [] ∨ ∃ x ∈ ls l, goodL x = false) := by
    rintro (h | h)
    ·have := congrArg List.length h; rw [ls_length] at this; simp at this; rw [this] at hl; simp at hl; omega
    ·exact hany ((any_bad l).2 h)
   rw [hf] at cc
   have CC := hid cc; clear cc hany hf
   by_cases h64 : 64 < n
   ·have HX : Hid (checkE (ls l) = 33) := by unfold Hid checkE; rw [if_neg hno, if_pos (by rw [ls_length]; omega)]
    have hn : (64 : Int) < n := by omega
    clear hno
    go_enter Tryz.func124, Tryz.ntmps124
    go_wp2_with (go_at_call 187; refine CC.out.mono ?_; rintro e w1 ⟨rfl, hb1⟩)
    go_ret
    exact ⟨ret_int (by rw [HX.out]), hb1⟩
   ·have HX : Hid (checkE (ls l) = 0) := by unfold Hid checkE; rw [if_neg hno, if_neg (by rw [ls_length]; omega)]
    have hn : ¬ (64 : Int) < n := by omega
    clear hno
    go_enter Tryz.func124, Tryz.ntmps124
    go_wp2_with (go_at_call 187; refine CC.out.mono ?_; rintro e w1 ⟨rfl, hb1⟩)
    go_ret
    exact ⟨ret_int (by rw [HX.out]), hb1⟩

/-- what Split hands back -/
def namesOf (s : List UInt8) : List (List UInt8) := if splitE s = 0 then pieces s else []
def SplitsTo (s : ByteArray) (v : Value) (w : World) : Prop := ∃ a c l, v = .slice a l.length c ∧ StrsAt w a l.length l ∧ ls l = namesOf s.data.toList ∧ (splitE s.data.toList ≠ 0 → v = .slice none 0 0)
def SplitsC (s : ByteArray) (v : Value) (w : World) : Prop := ∃ a l, v = .slice a l.length l.length ∧ StrsAt w a l.length l ∧ ls l = namesOf s.data.toList ∧ (splitE s.data.toList ≠ 0 → v = .slice none 0 0)
theorem strs_alloc (w : World) (l : List ByteArray) (T : TypeId) (hm : l.length ≤ 9223372036854775807) : StrsAt (w.alloc (.cells (l.map Value.string).toArray T)) (some ⟨w.heap.size, 0, none⟩) l.length l := by
 refine ⟨rfl, hm, ?_⟩
 by_cases h0 : l.length = 0
 ·exact .inl h0
 ·refine .inr ⟨w.heap.size, 0, rfl, fun j hj => ?_⟩
  rw [Nat.zero_add, World.cell?_alloc_mark]
  simp [List.getElem?_eq_getElem hj]

set_option maxHeartbeats 1000000 in
theorem splitC_any (s : ByteArray) (w : World) (hs : s.size < 4294967281) (hm : MaxAt w) :
  Calls Tryz.prog 70 #[.string s] w fun e w' => ∃ v, e = .returned (.tuple #[v, .int .i64 (splitE s.data.toList)]) ∧ SplitsC s v w' ∧ Below w.heap.size w w' := by
 obtain ⟨m, hm⟩ := hm
 have cS := Tryz.strings_Split s slash m w hs hm (by decide)
 have hlen : (Lib.splitB slash 0 (Lib.countB s slash) s).length = Lib.countB s slash + 1 := Lib.splitB_all slash (by decide) 0 _ s rfl
 have hls := splitB_pieces s
 have hcl := Lib.countB_le slash (by decide) s.size s (Nat.le_refl _)
 obtain ⟨l, hl⟩ : ∃ l, Lib.splitB slash 0 (Lib.countB s slash) s = l := ⟨_, rfl⟩
 rw [hl] at cS hlen hls
 obtain ⟨k, hk⟩ : ∃ k, Lib.countB s slash = k := ⟨_, rfl⟩
 rw [hk] at cS hlen hcl
 have hlm : l.length ≤ 9223372036854775807 := by omega
 have hS := strs_alloc w l 9 hlm
 have hbel : Below w.heap.size w (w.alloc (.cells (l.map Value.string).toArray 9)) := (Below.refl _ _).alloc (Nat.le_refl _) _
 rw [← hlen] at cS
 obtain ⟨w1, hw1⟩ : ∃ w1, w.alloc (.cells (l.map Value.string).toArray 9) = w1 := ⟨_, rfl⟩
 rw [hw1] at cS hS hbel
 obtain ⟨q, hq⟩ : ∃ q, w.heap.size = q := ⟨_, rfl⟩
 have hS' := hS
 rw [hq] at cS hS
 have cC := check_any (some ⟨q, 0, none⟩) l.length l.length l w1 hS
 have hE : checkE (ls l) = splitE s.data.toList := by unfold splitE ls; rw [hls]
 rw [hE] at cC
 have HL : Hid (ls l = pieces s.data.toList) := hls
 obtain ⟨E, hEE⟩ : ∃ E, splitE s.data.toList = E := ⟨_, rfl⟩
 rw [hEE] at cC
 have HEE := hid hEE
 have CS := hid cS; have CC := hid cC
 clear cS cC hlen hls hl hk hcl hE hEE hw1 hm hS' hq
 by_cases h0 : E = 0
 ·subst h0
  go_enter Tryz.func70, Tryz.ntmps70
  go_wp2_with (first
   | (go_at_call 123; refine CS.out.mono ?_; rintro e w2 ⟨rfl, hw⟩; obtain rfl := hw.symm)
   | (go_at_call 124; refine CC.out.mono ?_; rintro e w2 ⟨rfl, hb2⟩))
  go_ret2
  exact ⟨_, by rw [HEE.out]; rfl, ⟨_, l, rfl, hS.later hb2, by unfold namesOf; rw [if_pos HEE.out]; exact HL.out, fun h => absurd HEE.out h⟩, below_then hbel hb2⟩
 ·have e1 : (E != 0) = true := by simpa using h0
  have e2 : (E == 0) = false := by simpa using h0
  have H0 := hid h0; clear h0
  go_enter Tryz.func70, Tryz.ntmps70
  go_wp2_with (first
   | (go_at_call 123; refine CS.out.mono ?_; rintro e w2 ⟨rfl, hw⟩; obtain rfl := hw.symm)
   | (go_at_call 124; refine CC.out.mono ?_; rintro e w2 ⟨rfl, hb2⟩))
  go_ret2
  exact ⟨_, by rw [HEE.out]; rfl, ⟨none, [], rfl, ⟨rfl, by simp, .inl rfl⟩, by unfold namesOf; rw [if_neg (by rw [HEE.out]; exact H0.out)]; rfl, fun _ => rfl⟩, below_then hbel hb2⟩
theorem split_any (s : ByteArray) (w : World) (hs : s.size < 4294967281) (hm : MaxAt w) :
  Calls Tryz.prog 70 #[.string s] w fun e w' => ∃ v, e = .returned (.tuple #[v, .int .i64 (splitE s.data.toList)]) ∧ SplitsTo s v w' ∧ Below w.heap.size w w' :=
 (splitC_any s w hs hm).mono fun e w' ⟨v, he, ⟨a, l, h1, h2, h3, h4⟩, hb⟩ => ⟨v, he, ⟨a, l.length, l, h1, h2, h3, h4⟩, hb⟩

end Go.Proofs.YtmpjdoiogbbcoaaGreatDoor
/-
 FOR A PROOF OF AN '..UptoSaid': WHAT THE BOUND GIVES. Copy it as <Name>Bulk.lean (put your seat's Name for YtmpjdoiogbbcoaaGreatDoor, the bound of 'uptoSmall' for 1048576), name it in GOCLAIM.json's 'order' behind <Name>Rows. By an AI agent, Sun Nov 15 2026. No person has read it. No macro, syntax, notation, axiom, sorry.
-/
namespace Go.Proofs.YtmpjdoiogbbcoaaGreatDoor.bulks

end Go.Proofs.YtmpjdoiogbbcoaaGreatDoor.bulks
/- An argument that is a slice of strings, opened, with what the bound gives; a world in which the listed tables lie; what the shaped world says of the library's length variable. -/
namespace Go.Proofs.YtmpjdoiogbbcoaaGreatDoor
open Go.ChangeShapes Go.WideShapes Go.ChangeAt Go.RowKit
set_option linter.unusedVariables false

set_option maxRecDepth 100000 in
theorem maxAt_shaped {W : World} (h : W.ShapedOpen Tryz.prog) : MaxAt W :=
 Go.Proofs.cell_of_shapedOpen_int (zero := #[.int .i64 0]) (t := 3) h (of_decide_eq_true (by kernel_rfl)) (by kernel_rfl) rfl (by kernel_rfl) (by kernel_rfl) Tryz.underlying3
/-- the listed tables, as they lie -/
def lay (C : Array Value) : Obj → Obj
 | .cells _ t frozen => .cells C t frozen
 | o => o
noncomputable def laidWorld (os : Os) : World :=
 { World.holding Tryz.prog os ⟨#[], #[], []⟩ with heap := ((World.holding Tryz.prog os ⟨#[], #[], []⟩).heap.modify 1 (lay (Go.Pinned.utf8FirstZ.map fun n : Nat => Value.int .u8 (Int.ofNat n)).toArray)).modify 2 (lay ([128, 191, 160, 191, 128, 159, 144, 191, 128, 143, 0, 0, 0, 0, 0, 0, 0, 0, 0, 0, 0, 0, 0, 0, 0, 0, 0, 0, 0, 0, 0, 0].map fun n => Value.int .u8 n).toArray) }
end Go.Proofs.YtmpjdoiogbbcoaaGreatDoor
/- The book's bytes: numbers, texts, readers, transactions: plain Lean. -/
namespace Go.Proofs.YtmpjdoiogbbcoaaGreatDoor.Book
open Go.RowKit
set_option linter.unusedVariables false

/-! numbers -/
def numL (n : Nat) : List UInt8 := [UInt8.ofNat n, UInt8.ofNat (n / 256), UInt8.ofNat (n / 65536), UInt8.ofNat (n / 16777216)]
def numV : List UInt8 → Nat
 | a :: b :: c :: d :: _ => a.toNat + 256 * b.toNat + 65536 * c.toNat + 16777216 * d.toNat
 | _ => 0
theorem numL_len (n : Nat) : (numL n).length = 4 := rfl
theorem numV_numL (n : Nat) (h : n < 4294967296) (r : List UInt8) : numV (numL n ++ r) = n := by
 show (UInt8.ofNat n).toNat + 256 * (UInt8.ofNat (n / 256)).toNat + 65536 * (UInt8.ofNat (n / 65536)).toNat + 16777216 * (UInt8.ofNat (n / 16777216)).toNat = n
 simp only [UInt8.toNat_ofNat']
 omega
theorem numV_lt (l : List UInt8) : numV l < 4294967296 := by
 unfold numV
 split
 ·rename_i a b c d _
  have := a.toNat_lt; have := b.toNat_lt; have := c.toNat_lt; have := d.toNat_lt
  omega
 ·omega
/-! readers -/
structure Rd where
 rest : List UInt8
 bad : Bool
def newR (s : List UInt8) : Rd := ⟨s, false⟩
def takeR (r : Rd) (n : Nat) : List UInt8 × Rd := if r.bad = true ∨ r.rest.length < n then ([], ⟨[], true⟩) else (r.rest.take n, ⟨r.rest.drop n, false⟩)
def numR (r : Rd) : Nat × Rd := (numV (takeR r 4).1, (takeR r 4).2)
def textR (r : Rd) (most : Nat) : List UInt8 × Rd := takeR (if most < (numR r).1 then ⟨[], true⟩ else (numR r).2) (numR r).1
def wholeR (r : Rd) : Bool := !r.bad && r.rest.isEmpty
theorem takeR_app (a b : List UInt8) : takeR ⟨a ++ b, false⟩ a.length = (a, ⟨b, false⟩) := by
 unfold takeR
 rw [if_neg (by simp)]
 simp
theorem numR_app (n : Nat) (h : n < 4294967296) (b : List UInt8) : numR ⟨numL n ++ b, false⟩ = (n, ⟨b, false⟩) := by
 unfold numR
 have := takeR_app (numL n) b
 rw [numL_len] at this
 rw [this]
 have h2 := numV_numL n h []
 rw [List.append_nil] at h2
 simp [h2]
def textL (s : List UInt8) : List UInt8 := numL s.length ++ s
theorem textR_app (s b : List UInt8) (most : Nat) (h : s.length ≤ most) (h32 : s.length < 4294967296) : textR ⟨textL s ++ b, false⟩ most = (s, ⟨b, false⟩) := by
 unfold textR textL
 rw [List.append_assoc, numR_app _ h32]
 simp only
 rw [if_neg (by omega)]
 exact takeR_app s b
/-! transactions -/
section
variable (crc : List UInt8 → Nat)
end
end Go.Proofs.YtmpjdoiogbbcoaaGreatDoor.Book
/- Texts in rising order: where one stands. No program. -/
namespace Go.Proofs.YtmpjdoiogbbcoaaGreatDoor
open Go.RowKit
set_option linter.unusedVariables false

def lt' (a b : ByteArray) : Bool := Op.bytesLess a.toList b.toList
theorem bl_irr : ∀ a : List UInt8, Op.bytesLess a a = false
 | [] => rfl
 | c :: a => by unfold Op.bytesLess; simp [bl_irr a]
theorem bl_trans : ∀ a b c : List UInt8, Op.bytesLess a b = true → Op.bytesLess b c = true → Op.bytesLess a c = true
 | [], [], _, h, _ => by simp [Op.bytesLess] at h
 | _ :: _, [], _, h, _ => by simp [Op.bytesLess] at h
 | _, _ :: _, [], _, h => by simp [Op.bytesLess] at h
 | [], _ :: _, _ :: _, _, _ => by simp [Op.bytesLess]
 | x :: a, y :: b, z :: c, h1, h2 => by
  unfold Op.bytesLess at h1 h2 ⊢
  simp only [Bool.or_eq_true, decide_eq_true_eq, Bool.and_eq_true, beq_iff_eq] at h1 h2 ⊢
  rcases h1 with h1 | ⟨rfl, h1⟩
  ·rcases h2 with h2 | ⟨rfl, h2⟩
   ·exact .inl (UInt8.lt_trans h1 h2)
   ·exact .inl h1
  ·rcases h2 with h2 | ⟨rfl, h2⟩
   ·exact .inl h2
   ·exact .inr ⟨rfl, bl_trans a b c h1 h2⟩
theorem bl_tri : ∀ a b : List UInt8, Op.bytesLess a b = false → Op.bytesLess b a = false → a = b
 | [], [], _, _ => rfl
 | [], _ :: _, h, _ => by simp [Op.bytesLess] at h
 | _ :: _, [], _, h => by simp [Op.bytesLess] at h
 | x :: a, y :: b, h1, h2 => by
  unfold Op.bytesLess at h1 h2
  simp only [Bool.or_eq_false_iff, decide_eq_false_iff_not, Bool.and_eq_false_iff, beq_eq_false_iff_ne] at h1 h2
  have e : x = y := by
   apply UInt8.toNat_inj.1
   have := h1.1; have := h2.1
   rw [UInt8.lt_iff_toNat_lt] at *
   omega
  subst e
  rw [bl_tri a b (h1.2.resolve_left (fun h => h rfl)) (h2.2.resolve_left (fun h => h rfl))]
theorem lt_irr (a : ByteArray) : lt' a a = false := bl_irr _
theorem lt_trans {a b c : ByteArray} (h1 : lt' a b = true) (h2 : lt' b c = true) : lt' a c = true := bl_trans _ _ _ h1 h2
theorem lt_tri {a b : ByteArray} (h1 : lt' a b = false) (h2 : lt' b a = false) : a = b := by
 have := bl_tri _ _ h1 h2
 rw [ba_toList, ba_toList] at this
 exact ba_ext this
/-- in rising order, each once -/
def Rising (l : List ByteArray) : Prop := l.Pairwise (fun a b => lt' a b = true)
def posOf : List ByteArray → ByteArray → Nat
 | [], _ => 0
 | y :: r, x => if lt' y x = true then posOf r x + 1 else 0
theorem posOf_le : ∀ (l : List ByteArray) (x : ByteArray), posOf l x ≤ l.length
 | [], _ => Nat.le_refl _
 | y :: r, x => by unfold posOf; split <;> simp [posOf_le r x]
theorem posOf_at : ∀ {l : List ByteArray}, Rising l → ∀ (x : ByteArray) (t : Nat), t < l.length → lt' (l.getD t ByteArray.empty) x = decide (t < posOf l x)
 | [], _, _, t, h => absurd h (Nat.not_lt_zero _)
 | y :: r, hr, x, t, h => by
  obtain ⟨h1, h2⟩ := List.pairwise_cons.1 hr
  unfold posOf
  by_cases hy : lt' y x = true
  ·rw [if_pos hy]
   cases t with
   | zero => simpa using hy
   | succ t => simp only [List.getD_cons_succ, posOf_at h2 x t (by simpa using h)]; simp
  ·rw [if_neg hy]
   have hy' : lt' y x = false := by simpa using hy
   cases t with
   | zero => simpa using hy'
   | succ t =>
    simp only [List.getD_cons_succ, Nat.not_lt_zero, decide_false]
    cases h3 : lt' (r.getD t ByteArray.empty) x
    ·rfl
    ·have hm : r.getD t ByteArray.empty ∈ r := by
      rw [List.getD_eq_getElem?_getD, List.getElem?_eq_getElem (by simpa using h)]; exact List.getElem_mem _
     have := lt_trans (h1 _ hm) h3
     rw [this] at hy'; cases hy'
theorem posOf_mem : ∀ {l : List ByteArray}, Rising l → ∀ x : ByteArray, (posOf l x < l.length ∧ l.getD (posOf l x) ByteArray.empty = x) ↔ x ∈ l
 | [], _, _ => by simp [posOf]
 | y :: r, hr, x => by
  obtain ⟨h1, h2⟩ := List.pairwise_cons.1 hr
  have ih := posOf_mem h2 x
  unfold posOf
  by_cases hy : lt' y x = true
  ·rw [if_pos hy]
   simp only [List.length_cons, Nat.add_lt_add_iff_right, List.getD_cons_succ, ih, List.mem_cons]
   constructor
   ·exact .inr
   ·rintro (rfl | h)
    ·rw [lt_irr] at hy; cases hy
    ·exact h
  ·rw [if_neg hy]
   have hy' : lt' y x = false := by simpa using hy
   simp only [List.length_cons, Nat.zero_lt_succ, List.getD_cons_zero, true_and, List.mem_cons]
   constructor
   ·intro e; exact .inl e.symm
   ·rintro (e | h)
    ·exact e.symm
    ·have := h1 x h; rw [this] at hy'; cases hy'
def hasN (l : List ByteArray) (x : ByteArray) : Bool := decide (∃ o ∈ l, o = x)
theorem hasN_iff {l : List ByteArray} {x : ByteArray} : hasN l x = true ↔ x ∈ l := by unfold hasN; rw [decide_eq_true_eq]; simp
theorem hasN_no {l : List ByteArray} {x : ByteArray} : hasN l x = false ↔ x ∉ l := by rw [← hasN_iff]; simp
def putN (l : List ByteArray) (x : ByteArray) : List ByteArray := if hasN l x = true then l else l.take (posOf l x) ++ x :: l.drop (posOf l x)
theorem take_lt {l : List ByteArray} (hr : Rising l) (x : ByteArray) : ∀ y ∈ l.take (posOf l x), lt' y x = true := by
 intro y hy
 obtain ⟨j, hj, rfl⟩ := List.getElem_of_mem hy
 rw [List.length_take] at hj
 have := posOf_at hr x j (by omega)
 rw [List.getD_eq_getElem?_getD, List.getElem?_eq_getElem (by omega)] at this
 simp only [Option.getD_some] at this
 rw [List.getElem_take, this]; exact decide_eq_true (by omega)
theorem drop_gt {l : List ByteArray} (hr : Rising l) {x : ByteArray} (hx : x ∉ l) : ∀ y ∈ l.drop (posOf l x), lt' x y = true := by
 intro y hy
 obtain ⟨j, hj, rfl⟩ := List.getElem_of_mem hy
 rw [List.length_drop] at hj
 have := posOf_at hr x (posOf l x + j) (by omega)
 rw [List.getD_eq_getElem?_getD, List.getElem?_eq_getElem (by omega)] at this
 simp only [Option.getD_some] at this
 rw [List.getElem_drop]
 cases h : lt' x l[posOf l x + j]
 ·have e := lt_tri h (this.trans (decide_eq_false (by omega)))
  exact absurd (e ▸ List.getElem_mem _) hx
 ·rfl
theorem putN_rising {l : List ByteArray} (hr : Rising l) (x : ByteArray) : Rising (putN l x) := by
 unfold putN
 split
 ·exact hr
 ·rename_i hx
  rw [hasN_iff] at hx
  have h0 : (l.take (posOf l x) ++ l.drop (posOf l x)).Pairwise (fun a b => lt' a b = true) := by rw [List.take_append_drop]; exact hr
  obtain ⟨h1, h2, h3⟩ := List.pairwise_append.1 h0
  refine List.pairwise_append.2 ⟨h1, List.pairwise_cons.2 ⟨drop_gt hr hx, h2⟩, ?_⟩
  intro a ha b hb
  rcases List.mem_cons.1 hb with rfl | hb
  ·exact take_lt hr _ a ha
  ·exact h3 a ha b hb
theorem pos_bool {l : List ByteArray} (hr : Rising l) (x : ByteArray) : decide (posOf l x < l.length ∧ l.getD (posOf l x) ByteArray.empty = x) = hasN l x := by
 rw [Bool.eq_iff_iff, decide_eq_true_eq, hasN_iff]; exact posOf_mem hr x
end Go.Proofs.YtmpjdoiogbbcoaaGreatDoor
/- Objects (layer 6): plain Lean. -/
namespace Go.Proofs.YtmpjdoiogbbcoaaGreatDoor.Ojt
open Go.RowKit Book Pap
set_option linter.unusedVariables false

def bz (l : List UInt8) : ByteArray := ⟨l.toArray⟩
structure Ent where
 name : ByteArray
 kind : Int
 id : ByteArray
 deriving DecidableEq
structure Ob where
 kind : Int
 data : ByteArray
 ents : List Ent
 tree : ByteArray
 pars : List ByteArray
 height : Int
 note : ByteArray
 deriving DecidableEq
structure Lnk where
 kind : Int
 id : ByteArray
 deriving DecidableEq
def zero : Ob := ⟨0, ByteArray.empty, [], ByteArray.empty, [], 0, ByteArray.empty⟩
/-- each behind the one ahead of it -/
def risingB : List ByteArray → Bool
 | [] => true
 | [_] => true
 | a :: b :: r => lt' a b && risingB (b :: r)
def goodEnt (e : Ent) : Bool := goodL e.name.data.toList && (decide (e.kind = 1) || decide (e.kind = 2)) && decide (e.id.size = 32)
def goodTree (l : List Ent) : Bool := l.all goodEnt && (decide (l.length ≤ 256) && risingB (l.map (·.name)))
def goodPars (l : List ByteArray) : Bool := decide (l.length ≤ 8) && (risingB l && l.all (fun p => decide (p.size = 32)))
def goodCommit (x : Ob) : Bool := goodPars x.pars && (decide (0 ≤ x.height) && (decide (x.height ≤ 1073741824) && decide (0 < x.height ↔ x.pars ≠ []))) && (decide (x.tree.size = 32) && decide (x.note.size ≤ 1000))
/-- whether an object can be -/
def good (x : Ob) : Bool :=
 if x.kind = 1 then decide (x.data.size ≤ 65536) else if x.kind = 2 then goodTree x.ents else if x.kind = 3 then goodCommit x else false
/-! bytes -/
def entL (e : Ent) : List UInt8 := UInt8.ofNat e.kind.toNat :: textL e.name.data.toList ++ e.id.data.toList
def encL (x : Ob) : List UInt8 :=
 if x.kind = 1 then 1 :: x.data.data.toList
 else if x.kind = 2 then 2 :: numL x.ents.length ++ x.ents.flatMap entL
 else 3 :: x.tree.data.toList ++ numL x.pars.length ++ x.pars.flatMap (fun p => p.data.toList) ++ numL x.height.toNat ++ textL x.note.data.toList
def kindR (r : Rd) : Int × Rd := ((((takeR r 1).1.headD 0).toNat : Int), (takeR r 1).2)
def entR (r : Rd) : Ent × Rd :=
 (⟨bz (textR (kindR r).2 255).1, (kindR r).1, bz (takeR (textR (kindR r).2 255).2 32).1⟩, (takeR (textR (kindR r).2 255).2 32).2)
def entsR : Nat → Rd → List Ent × Rd
 | 0, r => ([], r)
 | n + 1, r => if r.bad = true then ([], r) else ((entR r).1 :: (entsR n (entR r).2).1, (entsR n (entR r).2).2)
def spoil (r : Rd) (n most : Nat) : Rd := if most < n then ⟨[], true⟩ else r
def treeR (r : Rd) : List Ent × Rd := entsR (numR r).1 (spoil (numR r).2 (numR r).1 256)
def idsR : Nat → Rd → List ByteArray × Rd
 | 0, r => ([], r)
 | n + 1, r => if r.bad = true then ([], r) else (bz (takeR r 32).1 :: (idsR n (takeR r 32).2).1, (idsR n (takeR r 32).2).2)
def parsR (r : Rd) : List ByteArray × Rd := idsR (numR r).1 (spoil (numR r).2 (numR r).1 8)
def blobO (s : List UInt8) : Ob := { zero with kind := 1, data := bz s }
def treeO (s : List UInt8) : Ob := { zero with kind := 2, ents := (treeR (newR s)).1 }
def commitO (s : List UInt8) : Ob :=
 let t := takeR (newR s) 32
 let p := parsR t.2
 let h := numR p.2
 let n := textR h.2 1000
 { zero with kind := 3, tree := bz t.1, pars := p.1, height := h.1, note := bz n.1 }
def commitR (s : List UInt8) : Rd := (textR (numR (parsR (takeR (newR s) 32).2).2).2 1000).2
/-- the object of bytes -/
def dec : List UInt8 → Option Ob
 | [] => none
 | k :: s =>
  if k = 1 then (if good (blobO s) = true then some (blobO s) else none)
  else if k = 2 then (if wholeR (treeR (newR s)).2 = true ∧ good (treeO s) = true then some (treeO s) else none)
  else if k = 3 then (if wholeR (commitR s) = true ∧ good (commitO s) = true then some (commitO s) else none)
  else none
theorem dec_good {s : List UInt8} {x : Ob} (h : dec s = some x) : good x = true := by
 unfold dec at h
 split at h
 ·cases h
 ·split at h
  ·split at h
   ·rename_i hg; cases h; exact hg
   ·cases h
  ·split at h
   ·split at h
    ·rename_i hg; cases h; exact hg.2
    ·cases h
   ·split at h
    ·split at h
     ·rename_i hg; cases h; exact hg.2
     ·cases h
    ·cases h
/-! links -/
def ltK (a b : Lnk) : Bool := lt' a.id b.id || (decide (a.id = b.id) && decide (a.kind < b.kind))
theorem ltK_irr (a : Lnk) : ltK a a = false := by unfold ltK; rw [lt_irr]; simp
theorem ltK_trans {a b c : Lnk} (h1 : ltK a b = true) (h2 : ltK b c = true) : ltK a c = true := by
 unfold ltK at *
 simp only [Bool.or_eq_true, Bool.and_eq_true, decide_eq_true_eq] at *
 rcases h1 with h1 | ⟨e1, h1⟩
 ·rcases h2 with h2 | ⟨e2, h2⟩
  ·exact .inl (lt_trans h1 h2)
  ·exact .inl (e2 ▸ h1)
 ·rcases h2 with h2 | ⟨e2, h2⟩
  ·exact .inl (e1 ▸ h2)
  ·exact .inr ⟨e1.trans e2, by omega⟩
theorem ltK_tri {a b : Lnk} (h1 : ltK a b = false) (h2 : ltK b a = false) : a = b := by
 unfold ltK at *
 simp only [Bool.or_eq_false_iff, Bool.and_eq_false_iff, decide_eq_false_iff_not] at *
 have e := lt_tri h1.1 h2.1
 have k1 := h1.2.resolve_left (fun h => h e)
 have k2 := h2.2.resolve_left (fun h => h e.symm)
 cases a; cases b
 simp only at e k1 k2
 subst e
 congr
 omega
def insK : List Lnk → Lnk → List Lnk
 | [], x => [x]
 | y :: r, x => if y = x then y :: r else if ltK x y = true then x :: y :: r else y :: insK r x
def RisK (l : List Lnk) : Prop := l.Pairwise (fun a b => ltK a b = true)
theorem insK_mem : ∀ (l : List Lnk) (x y : Lnk), y ∈ insK l x ↔ y ∈ l ∨ y = x
 | [], x, y => by simp [insK]
 | z :: r, x, y => by
  unfold insK
  split
  ·rename_i h; subst h
   constructor
   ·exact .inl
   ·rintro (h | h)
    ·exact h
    ·exact h ▸ List.mem_cons_self ..
  ·split
   ·simp only [List.mem_cons]; constructor
    ·rintro (h | h | h)
     ·exact .inr h
     ·exact .inl (.inl h)
     ·exact .inl (.inr h)
    ·rintro ((h | h) | h)
     ·exact .inr (.inl h)
     ·exact .inr (.inr h)
     ·exact .inl h
   ·simp only [List.mem_cons, insK_mem r x y, or_assoc]
theorem insK_ris : ∀ {l : List Lnk}, RisK l → ∀ x, RisK (insK l x)
 | [], _, x => List.pairwise_singleton _ _
 | z :: r, h, x => by
  obtain ⟨h1, h2⟩ := List.pairwise_cons.1 h
  unfold insK
  split
  ·exact h
  ·rename_i hne
   split
   ·rename_i hlt
    refine List.pairwise_cons.2 ⟨fun y hy => ?_, h⟩
    rcases List.mem_cons.1 hy with rfl | hy
    ·exact hlt
    ·exact ltK_trans hlt (h1 y hy)
   ·rename_i hlt
    refine List.pairwise_cons.2 ⟨fun y hy => ?_, insK_ris h2 x⟩
    rcases (insK_mem r x y).1 hy with hy | rfl
    ·exact h1 y hy
    ·cases hzy : ltK z y
     ·exact absurd (ltK_tri hzy (by simpa using hlt)) hne
     ·rfl
/-- two rising lists of the same links are one -/
theorem risK_ext : ∀ {a b : List Lnk}, RisK a → RisK b → (∀ x, x ∈ a ↔ x ∈ b) → a = b
 | [], [], _, _, _ => rfl
 | [], y :: b, _, _, h => absurd ((h y).2 (List.mem_cons_self ..)) (List.not_mem_nil)
 | x :: a, [], _, _, h => absurd ((h x).1 (List.mem_cons_self ..)) (List.not_mem_nil)
 | x :: a, y :: b, ha, hb, h => by
  obtain ⟨a1, a2⟩ := List.pairwise_cons.1 ha
  obtain ⟨b1, b2⟩ := List.pairwise_cons.1 hb
  have hxy : x = y := by
   rcases List.mem_cons.1 ((h x).1 (List.mem_cons_self ..)) with e | hx
   ·exact e
   ·rcases List.mem_cons.1 ((h y).2 (List.mem_cons_self ..)) with e | hy
    ·exact e.symm
    ·have := ltK_trans (a1 y hy) (b1 x hx)
     rw [ltK_irr] at this; cases this
  subst hxy
  rw [risK_ext a2 b2 (fun z => ?_)]
  constructor
  ·intro hz
   rcases List.mem_cons.1 ((h z).1 (List.mem_cons_of_mem _ hz)) with e | hz'
   ·have := a1 z hz; rw [e, ltK_irr] at this; cases this
   ·exact hz'
  ·intro hz
   rcases List.mem_cons.1 ((h z).2 (List.mem_cons_of_mem _ hz)) with e | hz'
   ·have := b1 z hz; rw [e, ltK_irr] at this; cases this
   ·exact hz'
/-- what an object names, as it stands there -/
def rawLinks (x : Ob) : List Lnk := if x.kind = 2 then x.ents.map (fun e => ⟨e.kind, e.id⟩) else if x.kind = 3 then ⟨2, x.tree⟩ :: x.pars.map (fun p => ⟨3, p⟩) else []
def links (x : Ob) : List Lnk := if good x = true then (rawLinks x).foldl insK [] else []
theorem foldK : ∀ (l acc : List Lnk), RisK acc → RisK (l.foldl insK acc) ∧ ∀ x, x ∈ l.foldl insK acc ↔ x ∈ acc ∨ x ∈ l
 | [], acc, h => ⟨h, fun x => by simp⟩
 | y :: l, acc, h => by
  obtain ⟨h1, h2⟩ := foldK l (insK acc y) (insK_ris h y)
  refine ⟨h1, fun x => ?_⟩
  rw [List.foldl_cons, h2, insK_mem, List.mem_cons, or_assoc]
theorem links_ris (x : Ob) : RisK (links x) := by
 unfold links; split
 ·exact (foldK _ [] List.Pairwise.nil).1
 ·exact List.Pairwise.nil
theorem links_mem {x : Ob} (h : good x = true) (l : Lnk) : l ∈ links x ↔ l ∈ rawLinks x := by
 unfold links; rw [if_pos h, (foldK _ [] List.Pairwise.nil).2]; simp
/-- the height over heights -/
def heightL : List Int → Int
 | [] => 0
 | a :: l => l.foldl max a + 1
end Go.Proofs.YtmpjdoiogbbcoaaGreatDoor.Ojt
/- Plain functions of layer 3 (ids and their digits), and what they come to; no program in sight. -/
namespace Go.Proofs.YtmpjdoiogbbcoaaGreatDoor.Idp

end Go.Proofs.YtmpjdoiogbbcoaaGreatDoor.Idp
/- The walks of layer 3's small functions: Good, Digit, Share, of the program and of the reference. -/
namespace Go.Proofs.YtmpjdoiogbbcoaaGreatDoor
open Go.RowKit Idp
set_option linter.unusedVariables false


theorem good_any (s : ByteArray) (w : World) : Calls Tryz.prog 213 #[.string s] w fun e w' => e = .returned (.bool (decide (s.size = 32))) ∧ w = w' := by
 go_enter Tryz.func213, Tryz.ntmps213
 go_wp2
 go_ret
 exact ⟨ret_bool (by rw [Bool.eq_iff_iff]; simp; omega), rfl⟩
end Go.Proofs.YtmpjdoiogbbcoaaGreatDoor
/- A region that draws its order, whose first operations read or call what leaves the world in a class, and whose last ones stand in one order: one walk in the text's order. No program. -/
namespace Go.Proofs.YtmpjdoiogbbcoaaGreatDoor
open Go.RowKit
set_option linter.unusedVariables false

section
variable {P : Program} {md : Region.Mode} {ops : Array Oper} {C : World → Prop}
def anyHead (P : Program) (md : Region.Mode) (ops : Array Oper) (C : World → Prop) (n : Nat) (L : Array Bool → Act → Prop) : Nat → Array Bool → Act → Prop
 | 0, listed, a => L listed a
 | f + 1, listed, a =>
  Region.ready md ops listed ≠ [] ∧ ∀ i ∈ Region.ready md ops listed, i < n ∧ qOp P ops C i (anyHead P md ops C n L f (listed.setIfInBounds i true)) a
theorem any_of_head {n g : Nat} {L : Array Bool → Act → Prop} {Q' : Exit → Act → World → Prop} (hL : ∀ listed a w, C w → L listed a → wpAny P md ops Q' g listed a w) :
  ∀ (f : Nat) (listed : Array Bool) (a : Act) (w : World), C w → anyHead P md ops C n L f listed a → wpAny P md ops Q' (f + g) listed a w
 | 0, listed, a, w, hw, h => by rw [Nat.zero_add]; exact hL _ _ _ hw h
 | f + 1, listed, a, w, hw, h => by
  rw [show f + 1 + g = (f + g) + 1 by omega]
  exact ⟨fun h0 => absurd h0 h.1, fun i hi => wpOp_of_qOp hw (fun a' w' hw' h' => any_of_head hL f _ a' w' hw' h') (h.2 i hi).2⟩
theorem anyHead_first {n i : Nat} {oi : Oper} {v : Value} {L : Array Bool → Act → Prop} (hi : ops[i]? = some oi) (hsel : ∀ (j : Nat) (o : Oper) cs b, ops[j]? = some o → o.op ≠ .select cs b)
  (hs : Region.sinkB md ops n = true) (hc : Region.chainB md ops n = true) (hn : n < ops.size) (hin : i < n)
  (hdone : ∀ listed a, L listed a → ∀ j ∈ Region.ready md ops listed, n ≤ j) :
  ∀ (f : Nat) (listed : Array Bool) (a : Act), HeadInv md ops n listed →
   (∀ j oj, ops[j]? = some oj → j ≠ i → listed.getD j true = false → (∀ e ∈ oj.after, Region.binds md e = true → e.on ≠ i) → oi.apart ops oj = true) →
   i ∈ Region.ready md ops listed → YieldsIn P ops C oi v a →
   anyHead P md ops C n L f (listed.setIfInBounds i true) (a.put oi.dst v) → anyHead P md ops C n L (f + 1) listed a := by
 intro f
 induction f with
 | zero =>
  intro listed a inv _ hr hy H
  have hun := (mem_ready.1 hr).1
  refine ⟨fun h => (by rw [h] at hr; cases hr), fun j hj => ?_⟩
  have hjn : j < n := by
   rcases Nat.lt_or_ge j n with h | h
   ·exact h
   ·exact absurd hj (tail_waits hs hc hn inv _ i rfl hin hun j h)
  refine ⟨hjn, ?_⟩
  by_cases hji : j = i
  ·subst hji; exact hy.qOp hi H
  ·have := hdone _ _ H j (ready_mono hj hji)
   omega
 | succ f ih =>
  intro listed a inv hfree hr hy H
  have hun := (mem_ready.1 hr).1
  refine ⟨fun h => (by rw [h] at hr; cases hr), fun j hj => ?_⟩
  have hjn : j < n := by
   rcases Nat.lt_or_ge j n with h | h
   ·exact h
   ·exact absurd hj (tail_waits hs hc hn inv _ i rfl hin hun j h)
  refine ⟨hjn, ?_⟩
  by_cases hji : j = i
  ·subst hji; exact hy.qOp hi H
  ·have h1 := (H.2 j (ready_mono hj hji)).2
   obtain ⟨hjun, oj, hoj, hall⟩ := mem_ready.1 hj
   have hnot : ∀ e ∈ oj.after, Region.binds md e = true → e.on ≠ i := fun e he hb heq => by
    have h1 := hall e he hb
    have h0 := hun
    rw [heq] at h1
    rcases Nat.lt_or_ge i listed.size with h' | h'
    ·simp [h'] at h0 h1; rw [h0] at h1; cases h1
    ·simp [Array.getElem?_eq_none h'] at h1
   have h2 := qOp_put hoj (hfree j oj hoj hji hjun hnot) (fun cs b => hsel i oi cs b hi) (fun cs b => hsel j oj cs b hoj) hy h1
   have hfree' : ∀ k ok, ops[k]? = some ok → k ≠ i → (listed.setIfInBounds j true).getD k true = false →
     (∀ e ∈ ok.after, Region.binds md e = true → e.on ≠ i) → oi.apart ops ok = true := fun k ok hk hki hun hno => by
    refine hfree k ok hk hki ?_ hno
    by_cases hjk : j = k
    ·subst hjk; exact hjun
    ·rw [getD_set_ne true hjk] at hun; exact hun
   refine qOp_mono (fun a' h3 => ih (listed.setIfInBounds j true) a' (inv.set hj hjn) hfree' (ready_mono hr (Ne.symm hji)) h3.1 ?_) h2
   rw [Array.setIfInBounds_comm _ _ hji]
   exact h3.2
theorem anyHead_lex {n g : Nat} {Lq : Act → Prop} (hsel : Region.noSelect ops = true) (hs : Region.sinkB md ops n = true) (hc : Region.chainB md ops n = true) (hn : n < ops.size) :
  ∀ (l : List Oper) (k : Nat) (listed : Array Bool) (a : Act), (∀ j, j < l.length → l[j]? = ops[k + j]?) → k + l.length = n → HeadInv md ops n listed →
  Region.lexHead md ops g l.length k listed = true → wpQuiet P ops C Lq l a →
  anyHead P md ops C n (fun listed' a' => Region.seqB md ops g n listed' = true ∧ Lq a') l.length listed a
 | [], k, listed, a, _, hk, _, hB, h => by
  have : k = n := by simpa using hk
  subst this
  exact ⟨by simpa [Region.lexHead] using hB, h⟩
 | o :: l, k, listed, a, hl, hk, inv, hB, h => by
  have h0 : ops[k]? = some o := by simpa using (hl 0 (by simp)).symm
  simp only [List.length_cons, Region.lexHead, Bool.and_eq_true] at hB
  obtain ⟨⟨hr, hf⟩, hB'⟩ := hB
  have hkn : k < n := by simp only [List.length_cons] at hk; omega
  have hr' : k ∈ Region.ready md ops listed := by simpa using hr
  have hst : qOp P ops C k (wpQuiet P ops C Lq l) a := by unfold qOp; simp only [h0]; exact h
  obtain ⟨v, hy, hK⟩ := yieldsIn_of_qOp h0 hst
  exact anyHead_first h0 (Region.noSelect_spec hsel) hs hc hn hkn (fun listed' a' hL => seqB_ready hL.1) l.length listed a inv (Region.free_spec h0 hf) hr' hy
   (anyHead_lex hsel hs hc hn l (k + 1) _ _ (fun j hj => by have := hl (j + 1) (by simp; omega); simpa [Nat.add_assoc, Nat.add_comm 1 j] using this) (by simp only [List.length_cons] at hk; omega) (inv.set hr' hkn) hB' hK)
/-- quiet in a class, then a tail in one order -/
theorem wp_region_tail {id : Nat} {Q : Exit → Act → World → Prop} {a : Act} {w : World} {l : List Oper} (n : Nat) (hm : P.follows .mixedOrders = true) (hB : Region.lexTailB .any l.toArray n = true) (hC : C { w with drawn := w.drawn + 1 })
  (h : wpQuiet P l.toArray C (fun a' => ∀ w', C w' → wpList P l.toArray Q (l.drop n) a' w') (l.take n) a) : (Code.region id l.toArray true).wp P Q a w := by
 simp only [Region.lexTailB, Bool.and_eq_true, decide_eq_true_eq] at hB
 obtain ⟨⟨⟨⟨hsel, hn⟩, hs⟩, hc⟩, hlex⟩ := hB
 have hn' : n < l.length := by simpa using hn
 have htl : (l.take n).length = n := by simp; omega
 have hdl : (l.drop n).length = l.toArray.size - n := by simp
 have inv0 : HeadInv .any l.toArray n (Array.replicate l.toArray.size false) :=
  ⟨by simp, fun j oj _ hl => (by rw [getD_replicate_false] at hl; cases hl), fun t _ ht => getD_in (by simpa using ht) (getD_replicate_false _ _)⟩
 have H := anyHead_lex (md := .any) (g := l.toArray.size - n) hsel hs hc hn (l.take n) 0 _ a (fun j hj => by
  have hj' : j < n := by rw [htl] at hj; exact hj
  simp [hj']) (by simpa using htl) inv0 (by rw [htl]; exact hlex) h
 refine wp_region_any hm ?_
 have := any_of_head (C := C) (Q' := Q) (g := l.toArray.size - n) (fun listed a' w' hw' hL => by
  have := wpAny_of_seq (md := .any) (Q' := Q) (l.drop n) n listed a' w' (fun j => by simp [List.getElem?_drop]) (by rw [hdl]; exact hL.1) (hL.2 w' hw')
  rwa [hdl] at this) _ _ _ _ hC H
 rw [htl, show n + (l.toArray.size - n) = l.toArray.size by omega] at this
 exact this
theorem wp_region_tail_drew {id : Nat} {Q : Exit → Act → World → Prop} {a : Act} {w : World} {l : List Oper} (n : Nat) (hm : P.follows .mixedOrders = true) (hB : Region.lexTailB .any l.toArray n = true)
  (h : wpQuiet P l.toArray (fun w' => ∃ n, w' = w.drewN n) (fun a' => ∀ w', (∃ n, w' = w.drewN n) → wpList P l.toArray Q (l.drop n) a' w') (l.take n) a) : (Code.region id l.toArray true).wp P Q a w :=
 wp_region_tail n hm hB ⟨1, rfl⟩ h
theorem wp_region_tail_after {id : Nat} {Q : Exit → Act → World → Prop} {a : Act} {w : World} {l : List Oper} (n : Nat) (hm : P.follows .mixedOrders = true) (hB : Region.lexTailB .any l.toArray n = true)
  (h : wpQuiet P l.toArray (fun w' => ∃ x : After w, w' = x.val) (fun a' => ∀ w', (∃ x : After w, w' = x.val) → wpList P l.toArray Q (l.drop n) a' w') (l.take n) a) : (Code.region id l.toArray true).wp P Q a w :=
 wp_region_tail n hm hB ⟨⟨_, (Below.refl _ _).drew⟩, rfl⟩ h
end
end Go.Proofs.YtmpjdoiogbbcoaaGreatDoor
/- Words on memory: what a call leaves alone; a block that is known whole; a row of cells that is written. No program. -/
namespace Go.Proofs.YtmpjdoiogbbcoaaGreatDoor
open Go.RowKit
set_option linter.unusedVariables false

/-- w' is w, but for what lies in F, and what is new -/
structure Only (F : Nat → Prop) (w w' : World) : Prop where
 os : w'.os = w.os
 tape : w'.tape = w.tape
 output : w'.output = w.output
 size : w.heap.size ≤ w'.heap.size
 block : ∀ k, k < w.heap.size → ¬ F k → w'.heap[k]? = w.heap[k]?
def NoF : Nat → Prop := fun _ => False
section
variable {F G : Nat → Prop} {a b c w w' : World}
theorem Only.refl (F : Nat → Prop) (w : World) : Only F w w := ⟨rfl, rfl, rfl, Nat.le_refl _, fun _ _ _ => rfl⟩
theorem Only.trans (h : Only F a b) (k : Only G b c) (hG : ∀ i, G i → F i ∨ a.heap.size ≤ i) : Only F a c :=
 ⟨k.os.trans h.os, k.tape.trans h.tape, k.output.trans h.output, Nat.le_trans h.size k.size, fun i hi hf =>
  (k.block i (Nat.lt_of_lt_of_le hi h.size) (fun e => (hG i e).elim hf (fun e => by omega))).trans (h.block i hi hf)⟩
theorem Only.then (h : Only F a b) (k : Only F b c) : Only F a c := h.trans k (fun _ => .inl)
theorem Only.mono (h : Only F a b) (hFG : ∀ i, F i → G i) : Only G a b := ⟨h.os, h.tape, h.output, h.size, fun i hi hg => h.block i hi (fun e => hg (hFG i e))⟩
theorem Only.of_below (h : Below a.heap.size a b) (F : Nat → Prop) : Only F a b := ⟨h.os, h.tape, h.output, h.size, fun i hi _ => h.block i hi⟩
theorem Only.below {B : Nat} (h : Only F a b) (hF : ∀ i, F i → B ≤ i) (hB : B ≤ a.heap.size) : Below B a b :=
 ⟨h.os, h.tape, h.output, h.size, fun i hi => h.block i (by omega) (fun e => by have := hF i e; omega)⟩
theorem Only.below0 (h : Only NoF a b) : Below a.heap.size a b := h.below (fun _ e => e.elim) (Nat.le_refl _)
theorem Only.alloc (h : Only F a w) (o : Obj) : Only F a (w.alloc o) :=
 h.trans (G := NoF) ⟨rfl, rfl, rfl, by simp, fun k hk _ => Below.heap_alloc _ _ _ hk⟩ (fun _ e => e.elim)
theorem Only.setCell (h : Only F a w) {p : Addr} (hp : F p.block ∨ a.heap.size ≤ p.block) (u : Value) : Only F a (w.setCell p u) :=
 h.trans (G := (· = p.block)) ⟨rfl, rfl, rfl, by simp [World.setCell], fun k hk hn => Below.heap_setCell _ _ _ _ hn⟩ (fun i e => by subst e; exact hp)
theorem Only.drew (h : Only F a w) : Only F a w.drew := ⟨h.os, h.tape, h.output, h.size, h.block⟩
theorem Only.grown {row : Option Nat} (h : Only F a w) (hg : w.grownBy w' row) (hr : ∀ k, row = some k → F k ∨ a.heap.size ≤ k) : Only F a w' :=
 h.trans (G := fun k => some k = row) ⟨hg.os, hg.tape, hg.output, hg.size, fun k hk hn => hg.block k hk hn⟩ (fun i e => hr i e.symm)
theorem Only.cell (h : Only F w w') {p : Addr} {v : Value} (hc : w.cell? p = some v) (hf : ¬ F p.block) : w'.cell? p = some v :=
 (World.cell?_of_block (h.block p.block (World.block_lt_of_cell? w p hc) hf)).trans hc
theorem grownBy_of_only {row : Option Nat} (h : Only (fun k => row = some k) a b) : a.grownBy b row := ⟨h.os, h.tape, h.output, h.size, fun k hk hn => h.block k hk (fun e => hn e.symm)⟩
end

/-- block g is just these cells -/
def Blk (w : World) (g : Nat) (t : TypeId) (cs : Array Value) : Prop := w.heap[g]? = some (.cells cs t (0, 0))
section
variable {F : Nat → Prop} {w w' : World} {g : Nat} {t : TypeId} {cs : Array Value}
theorem Blk.lt (h : Blk w g t cs) : g < w.heap.size := by
 rcases Nat.lt_or_ge g w.heap.size with hlt | hge
 ·exact hlt
 ·unfold Blk at h; rw [Array.getElem?_eq_none hge] at h; cases h
theorem Blk.cell (h : Blk w g t cs) (i : Nat) : w.cell? ⟨g, i, none⟩ = cs[i]? := cell_of_row w g i cs t (0, 0) h
theorem Blk.frozen (h : Blk w g t cs) (i : Nat) : w.frozen? ⟨g, i, none⟩ = false := by
 unfold Blk at h
 simp [World.frozen?, h]
theorem Blk.new (w : World) (t : TypeId) (cs : Array Value) : Blk (w.alloc (.cells cs t)) w.heap.size t cs := heap_alloc_new w _
theorem Blk.drew (h : Blk w g t cs) : Blk w.drew g t cs := h
theorem Blk.drewN (h : Blk w g t cs) (n : Nat) : Blk (w.drewN n) g t cs := h
theorem Blk.alloc (h : Blk w g t cs) (o : Obj) : Blk (w.alloc o) g t cs := (Below.heap_alloc w o g h.lt).trans h
theorem Blk.set (h : Blk w g t cs) (i : Nat) (u : Value) : Blk (w.setCell ⟨g, i, none⟩ u) g t (cs.setIfInBounds i u) := by
 unfold Blk at h ⊢
 simp [World.setCell, Array.getElem?_modify, h]
theorem Blk.far (h : Blk w g t cs) {p : Addr} (hp : g ≠ p.block) (u : Value) : Blk (w.setCell p u) g t cs := (Below.heap_setCell w p u g hp).trans h
theorem Blk.only (h : Blk w g t cs) (ho : Only F w w') (hg : ¬ F g) : Blk w' g t cs := (ho.block g h.lt hg).trans h
theorem Blk.grown {row : Option Nat} (h : Blk w g t cs) (hb : w.grownBy w' row) (hg : some g ≠ row) : Blk w' g t cs := (hb.block g h.lt hg).trans h
theorem Blk.ne {g' : Nat} {t' : TypeId} {cs' : Array Value} (h : Blk w g t cs) (h' : Blk w g' t' cs') (hne : t ≠ t') : g ≠ g' := by
 rintro rfl
 unfold Blk at h h'
 rw [h] at h'
 injection h' with h'
 injection h' with _ ht
 exact hne ht
theorem own_blk_ne {base : Nat} {e : TypeId} {size n : Nat} {v : Value} {xs : List Value} (h : w.ownsRow base e size v n xs) (hg : Blk w g t cs) (hne : e ≠ t) : v.ownBlock ≠ some g := by
 rcases h.2 with ⟨rfl, _⟩ | ⟨g', cap, cur, rfl, _, hh, _⟩
 ·simp [Value.ownBlock]
 ·intro he
  have : g' = g := by simpa [Value.ownBlock] using he
  subst this
  exact Blk.ne (t := e) hh hg hne rfl
theorem own_only {base : Nat} {e : TypeId} {size n : Nat} {v : Value} {xs : List Value} (h : w.ownsRow base e size v n xs) (ho : Only F w w') (hf : ∀ k, v.ownBlock = some k → ¬ F k) : w'.ownsRow base e size v n xs := by
 refine ⟨h.1, h.2.imp id ?_⟩
 rintro ⟨g', cap, cur, rfl, hb, hg, r⟩
 exact ⟨g', cap, cur, rfl, hb, (ho.block g' (Array.getElem?_eq_some_iff.1 hg).1 (hf g' rfl)).trans hg, r⟩
theorem own_lt {base : Nat} {e : TypeId} {size n : Nat} {v : Value} {xs : List Value} (h : w.ownsRow base e size v n xs) {k : Nat} (hk : v.ownBlock = some k) : k < w.heap.size := (h.lt k hk).2
theorem own_ne {base : Nat} {e e' : TypeId} {size size' n n' : Nat} {v v' : Value} {xs xs' : List Value} (h : w.ownsRow base e size v n xs) (h' : w.ownsRow base e' size' v' n' xs') (hne : e ≠ e') {k : Nat} (hk : v.ownBlock = some k) : v'.ownBlock ≠ some k := by
 rcases h.2 with ⟨rfl, _⟩ | ⟨g', cap, cur, rfl, _, hh, _⟩
 ·simp [Value.ownBlock] at hk
 ·have : g' = k := by simpa [Value.ownBlock] using hk
  subst this
  exact own_blk_ne h' (cs := cur) (t := e) hh (fun e => hne e.symm)
end

/-! cells that are written one by one -/
def wr (cur : Array Value) : Nat → List Value → Array Value
 | _, [] => cur
 | o, v :: r => wr (cur.setIfInBounds o v) (o + 1) r
theorem wr_size : ∀ (vs : List Value) (cur : Array Value) (o : Nat), (wr cur o vs).size = cur.size
 | [], _, _ => rfl
 | v :: r, cur, o => by rw [wr, wr_size r]; simp
theorem wr_toList : ∀ (vs : List Value) (cur : Array Value) (o : Nat), o + vs.length ≤ cur.size → (wr cur o vs).toList = cur.toList.take o ++ vs ++ cur.toList.drop (o + vs.length)
 | [], cur, o, _ => by simp [wr]
 | v :: r, cur, o, h => by
  simp only [List.length_cons] at h
  rw [wr, wr_toList r _ (o + 1) (by simp; omega)]
  simp only [Array.toList_setIfInBounds, List.length_cons]
  have hl : o < cur.toList.length := by simp; omega
  rw [List.take_set, List.drop_set_of_lt (by omega), show o + 1 + r.length = o + (r.length + 1) by omega]
  congr 1
  rw [show v :: r = [v] ++ r from rfl, ← List.append_assoc]
  congr 1
  rw [List.take_succ_eq_append_getElem hl, List.set_append_right _ _ (by simp; omega)]
  simp
  rw [Nat.min_eq_left (by omega)]; simp
theorem heap_setCells {g : Nat} {e : TypeId} {fz : Nat × Nat} : ∀ (vs : List Value) (o : Nat) (w : World) (cur : Array Value), w.heap[g]? = some (.cells cur e fz) → (w.setCells g o vs).heap[g]? = some (.cells (wr cur o vs) e fz)
 | [], _, _, _, h => h
 | v :: r, o, w, cur, h => by
  rw [World.setCells, wr]
  refine heap_setCells r (o + 1) _ _ ?_
  simp [World.setCell, Array.getElem?_modify, h]
theorem only_setCells {F : Nat → Prop} {a : World} {g : Nat} (hg : F g ∨ a.heap.size ≤ g) : ∀ (vs : List Value) (o : Nat) (w : World), Only F a w → Only F a (w.setCells g o vs)
 | [], _, _, h => h
 | v :: r, o, w, h => by rw [World.setCells]; exact only_setCells hg r (o + 1) _ (h.setCell hg v)
end Go.Proofs.YtmpjdoiogbbcoaaGreatDoor
/- Objects: what can be, walked: isRising, goodTree, goodCommit, Good. -/
namespace Go.Proofs.YtmpjdoiogbbcoaaGreatDoor
open Go.RowKit Book Pap Ojt
set_option linter.unusedVariables false

theorem risingB_iff : ∀ (l : List ByteArray), risingB l = true ↔ ∀ j, j + 1 < l.length → lt' (l.getD j ByteArray.empty) (l.getD (j + 1) ByteArray.empty) = true
 | [] => ⟨fun _ j h => by simp at h, fun _ => rfl⟩
 | [a] => ⟨fun _ j h => by simp at h, fun _ => rfl⟩
 | a :: b :: r => by
  show (lt' a b && risingB (b :: r)) = true ↔ _
  rw [Bool.and_eq_true, risingB_iff (b :: r)]
  constructor
  ·rintro ⟨h1, h2⟩ j hj
   cases j with
   | zero => exact h1
   | succ j => exact h2 j (by simp only [List.length_cons] at hj ⊢; omega)
  ·intro h
   exact ⟨h 0 (by simp), fun j hj => h (j + 1) (by simp only [List.length_cons] at hj ⊢; omega)⟩
theorem risingB_no {l : List ByteArray} {j : Nat} (h : j + 1 < l.length) (hn : lt' (l.getD j ByteArray.empty) (l.getD (j + 1) ByteArray.empty) = false) : risingB l = false := by
 cases hr : risingB l
 ·rfl
 ·have := (risingB_iff l).1 hr j h
  rw [hn] at this; cases this
theorem drewN2 (w : World) (q n : Nat) : ∃ m, (w.drewN q).drewN n = w.drewN m := ⟨_, World.drewN_drewN w q n⟩
set_option maxRecDepth 100000 in
set_option maxHeartbeats 1000000 in
theorem rising_any (a : Option Addr) (n c : Nat) (l : List ByteArray) (w : World) (h : StrsAt w a n l) : Calls Tryz.prog 214 #[.slice a n c] w fun e w' => e = .returned (.bool (risingB l)) ∧ ∃ q, w' = w.drewN q := by
 obtain ⟨h1, h2, h3⟩ := h
 have HL := hid h1
 obtain ⟨R, hR⟩ : ∃ R, risingB l = R := ⟨_, rfl⟩
 have HR := hid hR
 rw [hR]
 clear hR
 go_enter Tryz.func214, Tryz.ntmps214
 go_wp2_with fail
 go_loopw [3] (fun iv wr => ∃ i : Nat, 1 ≤ i ∧ (i ≤ n ∨ i = 1) ∧ iv = .int .i64 i ∧ Hid (∀ j, j + 1 < i → lt' (l.getD j ByteArray.empty) (l.getD (j + 1) ByteArray.empty) = true) ∧ ∃ q, wr = w.drewN q) (fun iv _ => n - (intOf iv).toNat)
 case atStart => exact ⟨1, Nat.le_refl _, .inr rfl, rfl, fun j hj => by omega, 0, rfl⟩
 case round =>
  obtain ⟨i, hi1, hin, rfl, HP, q, rfl⟩ := hrel
  by_cases hlt : i < n
  ·obtain ⟨b, off, rfl, hc⟩ := h3.resolve_left (by omega)
   have ci : (i : Int) < n := by omega
   have ci0 : (0 : Int) ≤ (i : Int) := by omega
   have cm0 : (0 : Int) ≤ (i : Int) - 1 := by omega
   have cm1 : (1 : Int) ≤ (i : Int) := by omega
   have cm2 : (i : Int) - 1 < n := by omega
   have ew : IntKind.i64.wrap ((i : Int) - 1) = (i : Int) - 1 := by rw [IntKind.wrap_i64]; omega
   have et : ((i : Int) - 1).toNat = i - 1 := by omega
   have q1 : w.cell? ⟨b, off + (i - 1), none⟩ = _ := hc (i - 1) (by omega)
   have q2 : w.cell? ⟨b, off + i, none⟩ = _ := hc i hlt
   have HS : Hid (∀ j, j + 1 < i + 1 → j + 1 < i ∨ j = i - 1) := fun j hj => by omega
   have e1 : i - 1 + 1 = i := by omega
   have HX : Hid (lt' (l.getD (i - 1) ByteArray.empty) (l.getD (i - 1 + 1) ByteArray.empty) = Op.bytesLess (l.getD (i - 1) ByteArray.empty).toList (l.getD i ByteArray.empty).toList) := by rw [e1]; rfl
   have HN : Hid (i - 1 + 1 < l.length) := by rw [e1, HL.out]; exact hlt
   clear e1 h1 hc
   obtain ⟨x, hx⟩ : ∃ x, l.getD (i - 1) ByteArray.empty = x := ⟨_, rfl⟩
   obtain ⟨y, hy⟩ : ∃ x, l.getD i ByteArray.empty = x := ⟨_, rfl⟩
   rw [hx, hy] at HX
   rw [hx] at q1
   rw [hy] at q2
   have HXX := hid hx
   clear hx hy
   cases hb : Op.bytesLess x.toList y.toList
   ·have HNO : Hid (risingB l = false) := risingB_no HN.out (by rw [HXX.out, HX.out]; exact hb)
    go_wp2_with fail
    go_quiet (fail)
    go_wp2_with fail
    go_ret
    exact ⟨ret_bool (by rw [← HR.out, HNO.out]), drewN2 _ _ _⟩
   ·have HYES : Hid (∀ j, j + 1 < i + 1 → lt' (l.getD j ByteArray.empty) (l.getD (j + 1) ByteArray.empty) = true) := fun j hj => (HS.out j hj).elim (HP.out j) (fun e => by rw [e, HXX.out, HX.out]; exact hb)
    go_wp2_with fail
    go_quiet (fail)
    go_wp2_with fail
    go_roundw
    case rel =>
     exact ⟨i + 1, by omega, by omega, by go_num, HYES, ⟨_, rfl⟩⟩
    case measure => simp [intOf]; omega
  ·have hr : Hid (risingB l = true) := (risingB_iff l).2 fun j hj => HP.out j (by have := HL.out; omega)
   have ci : ¬ (i : Int) < n := by omega
   clear h1 h3
   go_wp2_with fail
   go_ret
   exact ⟨ret_bool (by rw [← HR.out, hr.out]), _, rfl⟩
theorem oddid_any (s : ByteArray) (w : World) : Calls Tryz.prog 215 #[.string s] w fun e w' => e = .returned (.bool (!decide (s.size = 32))) ∧ w = w' := by
 have HG := hid (good_any s w)
 obtain ⟨t, ht⟩ : ∃ t, decide (s.size = 32) = t := ⟨_, rfl⟩
 rw [ht] at HG ⊢
 clear ht
 go_enter Tryz.func215, Tryz.ntmps215
 go_wp2_with fail
 refine HG.out.mono ?_; rintro e w' ⟨rfl, rfl⟩
 go_wp2_with fail
 go_ret
 exact ⟨rfl, rfl⟩
theorem own_slice' {w : World} {B e s n : Nat} {v : Value} {xs : List Value} (h : w.ownsRow B e s v n xs) : ∃ a c, v = .slice a n c ∧ n ≤ c := by
 rcases h.2 with ⟨rfl, h0⟩ | ⟨g, cap, cur, rfl, hb, hg, hn, r⟩
 ·exact ⟨none, 0, by rw [h0], by omega⟩
 ·exact ⟨_, _, rfl, hn⟩
/-- a slice of entries in memory: name, kind, id -/
def EntsAt (w : World) (a : Option Addr) (n : Nat) (l : List Ent) : Prop :=
 l.length = n ∧ n ≤ 9223372036854775807 ∧ (n = 0 ∨ ∃ b off, a = some ⟨b, off, none⟩ ∧ ∀ j, j < n → w.cell? ⟨b, off + j * 3, none⟩ = some (.string (l.getD j ⟨ByteArray.empty, 0, ByteArray.empty⟩).name) ∧ w.cell? ⟨b, off + j * 3 + 1, none⟩ = some (.int .i64 (l.getD j ⟨ByteArray.empty, 0, ByteArray.empty⟩).kind) ∧ w.cell? ⟨b, off + j * 3 + 2, none⟩ = some (.string (l.getD j ⟨ByteArray.empty, 0, ByteArray.empty⟩).id))
theorem EntsAt.later {w w' : World} {a : Option Addr} {n : Nat} {l : List Ent} (h : EntsAt w a n l) (hb : Below w.heap.size w w') : EntsAt w' a n l := by
 obtain ⟨h1, h2, h3⟩ := h
 refine ⟨h1, h2, h3.imp id ?_⟩
 rintro ⟨b, off, ha, hc⟩
 refine ⟨b, off, ha, fun j hj => ?_⟩
 obtain ⟨c0, c1, c2⟩ := hc j hj
 exact ⟨(hb.cell (World.block_lt_of_cell? w _ c0)).trans c0, (hb.cell (World.block_lt_of_cell? w _ c1)).trans c1, (hb.cell (World.block_lt_of_cell? w _ c2)).trans c2⟩
set_option maxRecDepth 100000 in
set_option maxHeartbeats 4000000 in
theorem goodtree_any (a : Option Addr) (n c : Nat) (l : List Ent) (w : World) (h : EntsAt w a n l) (hn : n ≤ 1000000) : Calls Tryz.prog 175 #[.slice a n c] w fun e w' => e = .returned (.bool (goodTree l)) ∧ Below w.heap.size w w' := by
 obtain ⟨i0, hi0, hz0, hz1, hz2⟩ := info_parts Tryz.infoS
 obtain ⟨h1, h2, h3⟩ := h
 have HL := hid h1
 obtain ⟨R, hR⟩ : ∃ R, goodTree l = R := ⟨_, rfl⟩
 have HR := hid hR
 rw [hR]
 clear hR
 go_enter Tryz.func175, Tryz.ntmps175
 go_wp2_with fail
 go_loopw [8, 3] (fun iv v wr => ∃ i : Nat, i ≤ n ∧ iv = .int .i64 i ∧ Hid (wr.ownsRow w.heap.size 9 1 v i (svals ((l.take i).map (·.name)))) ∧ Hid (∀ e ∈ l.take i, goodEnt e = true) ∧ Hid (Below w.heap.size w wr)) (fun iv _ _ => n - (intOf iv).toNat)
 case atStart => exact ⟨0, Nat.zero_le _, rfl, World.ownsRow_nil _ _ _ _, fun e he => by simp at he, Below.refl _ _⟩
 case round =>
  obtain ⟨i, hi, rfl, HO, HG, HB⟩ := hrel
  obtain ⟨va, vc, rfl, hvc⟩ := own_slice' HO.out
  have hsz := HB.out.size
  by_cases hlt : i < n
  ·obtain ⟨b, off, rfl, hc⟩ := h3.resolve_left (by omega)
   have ci : (i : Int) < n := by omega
   have ci0 : (0 : Int) ≤ (i : Int) := by omega
   obtain ⟨k0, k1, k2⟩ := hc i hlt
   have bl : b < w.heap.size := World.block_lt_of_cell? w _ k0
   have q0 := (HB.out.cell (p := ⟨b, off + i * 3, none⟩) bl).trans k0
   have q1 := (HB.out.cell (p := ⟨b, off + i * 3 + 1, none⟩) bl).trans k1
   have q2 := (HB.out.cell (p := ⟨b, off + i * 3 + 2, none⟩) bl).trans k2
   have HT : Hid (l.take (i + 1) = l.take i ++ [l.getD i ⟨ByteArray.empty, 0, ByteArray.empty⟩]) := by
    show _ = _
    have hl : i < l.length := by rw [HL.out]; exact hlt
    rw [List.take_succ_eq_append_getElem hl, List.getD_eq_getElem?_getD, List.getElem?_eq_getElem hl]; rfl
   have HM : Hid (l.getD i ⟨ByteArray.empty, 0, ByteArray.empty⟩ ∈ l) := by
    have hl : i < l.length := by rw [HL.out]; exact hlt
    rw [List.getD_eq_getElem?_getD, List.getElem?_eq_getElem hl]; exact List.getElem_mem hl
   obtain ⟨x, hx⟩ : ∃ x, l.getD i ⟨ByteArray.empty, 0, ByteArray.empty⟩ = x := ⟨_, rfl⟩
   rw [hx] at q0 q1 q2 HT HM
   obtain ⟨nm, kd, id⟩ := x
   simp only at q0 q1 q2
   clear hx k0 k1 k2 hc
   go_upto_region 5 with fail
   have HX1 : Hid (Blk (wr.alloc (.cells #[.string nm, .int .i64 kd, .string id] 76)) wr.heap.size 76 #[.string nm, .int .i64 kd, .string id]) := Blk.new wr _ _
   have HO1 : Hid ((wr.alloc (.cells #[.string nm, .int .i64 kd, .string id] 76)).ownsRow w.heap.size 9 1 (.slice va i vc) i (svals ((l.take i).map (·.name)))) := HO.out.alloc _
   have HB1 : Hid (Below w.heap.size w (wr.alloc (.cells #[.string nm, .int .i64 kd, .string id] 76))) := HB.out.alloc hsz _
   clear q0 q1 q2 HO HB
   have hsz1 : w.heap.size ≤ (wr.alloc (.cells #[.string nm, .int .i64 kd, .string id] 76)).heap.size := by simp; omega
   generalize (wr.alloc (.cells #[.string nm, .int .i64 kd, .string id] 76)) = w1 at HX1 HO1 HB1 hsz1 ⊢
   generalize wr.heap.size = g1 at HX1 ⊢
   have k0 : w1.cell? ⟨g1, 0, none⟩ = some (.string nm) := Blk.cell HX1.out 0
   have k1 : w1.cell? ⟨g1, 1, none⟩ = some (.int .i64 kd) := Blk.cell HX1.out 1
   have k2 : w1.cell? ⟨g1, 2, none⟩ = some (.string id) := Blk.cell HX1.out 2
   have HPG := hid (pgood_any nm w1)
   have HIG := hid (good_any id w1)
   have HGE : Hid (goodEnt ⟨nm, kd, id⟩ = (goodL nm.data.toList && (decide (kd = 1) || decide (kd = 2)) && decide (id.size = 32))) := rfl
   obtain ⟨G, hG⟩ : ∃ G, goodEnt ⟨nm, kd, id⟩ = G := ⟨_, rfl⟩
   have HGG := hid hG
   rw [hG] at HGE
   obtain ⟨p, hp⟩ : ∃ p, goodL nm.data.toList = p := ⟨_, rfl⟩
   obtain ⟨t, ht⟩ : ∃ t, decide (id.size = 32) = t := ⟨_, rfl⟩
   rw [hp] at HPG HGE
   rw [ht] at HIG HGE
   clear hG hp ht
   go_cut [31] (fun s31 wx => s31 = .bool (!G) ∧ wx = w1)
   case first =>
    cases p
    ·have hG : G = false := HGE.out
     subst hG
     go_wp2_with (first
      | (go_at_call 186; refine HPG.out.mono ?_; rintro e w' ⟨rfl, rfl⟩))
     go_meet
     case rel => exact ⟨rfl, rfl⟩
    ·by_cases h1 : kd = 1
     ·subst h1
      have hG : G = t := by rw [HGE.out]; simp
      subst hG
      go_wp2_with (first
       | (go_at_call 186; refine HPG.out.mono ?_; rintro e w' ⟨rfl, rfl⟩)
       | (go_at_call 213; refine HIG.out.mono ?_; rintro e w' ⟨rfl, rfl⟩))
      go_meet
      case rel => exact ⟨rfl, rfl⟩
     ·by_cases h2 : kd = 2
      ·subst h2
       have hG : G = t := by rw [HGE.out]; simp
       subst hG
       go_wp2_with (first
        | (go_at_call 186; refine HPG.out.mono ?_; rintro e w' ⟨rfl, rfl⟩)
        | (go_at_call 213; refine HIG.out.mono ?_; rintro e w' ⟨rfl, rfl⟩))
       go_meet
       case rel => exact ⟨rfl, rfl⟩
      ·have hG : G = false := by rw [HGE.out]; simp [h1, h2]
       subst hG
       have b1 : (kd == 1) = false := by rw [beq_eq_false_iff_ne]; exact h1
       have b2 : (kd == 2) = false := by rw [beq_eq_false_iff_ne]; exact h2
       have b3 : (kd != 1) = true := by rw [bne, b1]; rfl
       have b4 : (kd != 2) = true := by rw [bne, b2]; rfl
       go_wp2_with (first
        | (go_at_call 186; refine HPG.out.mono ?_; rintro e w' ⟨rfl, rfl⟩))
       go_meet
       case rel => exact ⟨rfl, rfl⟩
   case rest =>
    obtain ⟨rfl, rfl⟩ := hcut
    cases G
    ·have HRF : Hid (R = false) := by
      show _ = _
      rw [← HR.out]
      unfold goodTree
      have : l.all goodEnt = false := by
       rw [List.all_eq_false]
       exact ⟨_, HM.out, by rw [HGG.out]; simp⟩
      rw [this]; rfl
     go_wp2_with fail
     go_ret
     exact ⟨ret_bool HRF.out.symm, HB1.out⟩
    ·have HG2 : Hid (∀ e ∈ l.take (i + 1), goodEnt e = true) := by
      intro e he
      rw [HT.out] at he
      rcases List.mem_append.1 he with he | he
      ·exact HG.out e he
      ·rw [List.mem_singleton.1 he]; exact HGG.out
     go_wp2_with (first
      | (at_builtin; refine wpList_append_own _ rfl (.tmp 32) (.tmp 35) 40 rfl w.heap.size 9 i0 (.string ⟨#[]⟩) 1 16 Tryz.underlying40 hi0 hz0 hz1 hz2 rfl (by decide) (.slice va i vc) _ _ rfl (HO1.out.alloc _) ⟨wc.heap.size, 0, none⟩ 1 1 [.string nm] rfl rfl (cellNew1 _ _ _) (one_bytes rfl) (by unfold maxLen; omega) (by omega) (by simp; omega) ?_; intro v' w3 hown' hgrow _; have HOWN := hid hown'; have HGR := hid hgrow; clear hown' hgrow))
     obtain ⟨va', vc', rfl, hvc'⟩ := own_slice' HOWN.out
     have HO3 : Hid (w3.ownsRow w.heap.size 9 1 (.slice va' (i + 1) vc') (i + 1) (svals ((l.take (i + 1)).map (·.name)))) := by
      have h := HOWN.out
      rw [HT.out, List.map_append, svals_append]; exact h
     have HB3 : Hid (Below w.heap.size w w3) := below_grown1 HB1.out HO1.out _ hsz1 HGR.out
     go_roundw
     case rel => first | exact ⟨i + 1, by omega, by go_num, HO3, HG2, HB3⟩ | ((repeat apply Exists.intro); exact ⟨⟨i + 1, by omega, by go_num, HO3, HG2, HB3⟩, rfl⟩)
     case measure => simp [intOf]; omega
  ·obtain rfl : i = n := by omega
   have HTA : Hid (l.take i = l) := List.take_of_length_le (by rw [HL.out]; exact Nat.le_refl _)
   have HALL : Hid (R = (decide (i ≤ 256) && risingB (l.map (·.name)))) := by
    show _ = _
    rw [← HR.out]
    unfold goodTree
    have : l.all goodEnt = true := by
     rw [List.all_eq_true]
     intro e he
     exact HG.out e (by rw [HTA.out]; exact he)
    rw [this, HL.out]; rfl
   have hlm : (l.map (·.name)).length = i := by rw [List.length_map, HL.out]
   have HS : Hid (StrsAt wr va i (l.map (·.name))) := by
    have h := HO.out
    rw [HTA.out] at h
    have h' : wr.ownsRow w.heap.size 9 1 (.slice va i vc) (l.map (·.name)).length (svals (l.map (·.name))) := by rw [hlm]; exact h
    obtain ⟨a', c', he, hst⟩ := own_strs h' (by omega)
    injection he with e1 e2 e3
    rw [hlm, ← e1] at hst
    exact hst
   have HRS := hid (rising_any va i vc (l.map (·.name)) wr HS.out)
   obtain ⟨t, ht⟩ : ∃ t, risingB (l.map (·.name)) = t := ⟨_, rfl⟩
   rw [ht] at HRS HALL
   clear ht hlm
   by_cases h256 : i ≤ 256
   ·have g1 : (i : Int) ≤ 256 := by omega
    have HRT : Hid (R = t) := by rw [HALL.out]; show _ = _; simp [h256]
    go_wp2_with (first
     | (go_at_call 214; refine HRS.out.mono ?_; rintro e w' ⟨rfl, q, rfl⟩))
    go_ret
    exact ⟨ret_bool HRT.out.symm, below_drewN HB.out _⟩
   ·have g1 : ¬ (i : Int) ≤ 256 := by omega
    have HRT : Hid (R = false) := by rw [HALL.out]; show _ = _; simp [h256]
    go_wp2_with fail
    go_ret
    exact ⟨ret_bool HRT.out.symm, HB.out⟩
end Go.Proofs.YtmpjdoiogbbcoaaGreatDoor
