/- Texts in a row: PathWalkB, Bulk, OpenStrs, BkPlain, Sorted, ObjP, IdPlain, IdWalkA, Tail, Only, ObW, ObX, Bytes. -/
import Derived.Test.YtlenfiiocmchdaaGreatDoorMaB
import Derived.Test.YtlenfiiocmchdaaGreatDoorRows
import Derived.Test.YtlenfiiocmchdaaGreatDoorCards
import Derived.Test.YtlenfiiocmchdaaGreatDoorTie
import Derived.WalkKit
import Derived.ProofKit
import Derived.OpenShut
import Derived.ShutString
import Derived.ChangeOld
import Derived.Below
import Derived.SliceStrings
import Derived.Deep.DeepHandedRow
import Derived.Lib.LaidTab
import Derived.Lib.Strings
import Derived.Test.YtlenfiiocmchdaaGreatDoorChecked
import Derived.BigQuiet
import Derived.Deep.QuietTactic
import Derived.Deep.Quiet
import Derived.StillTail
import Derived.Laws.Rows
import Derived.Laws.OwnMore
import Derived.Laws.IdiomCopy
import Derived.Deep.Draws
import Derived.WalkLawsBesides
import Derived.Deep.DeepCutAuto
import Derived.Deep.CutBlock
import Derived.Deep.DeepFit
import Derived.Outline
import Derived.Deep.AppendSrc
/- check, Split, Join, Compare, Within of the program. -/
namespace Go.Proofs.YtlenfiiocmchdaaGreatDoor
open Go.RowKit Pap
set_option linter.unusedVariables false

def ls (l : List ByteArray) : List (List UInt8) := l.map (·.data.toList)
theorem ls_length (l : List ByteArray) : (ls l).length = l.length := by simp [ls]
/-- the library's variable that says how long a text may be that is searched by rule -/
def MaxAt (w : World) : Prop := ∃ m, w.cell? ⟨0, 0, none⟩ = some (.int .i64 m)
theorem MaxAt.later {w w' : World} (h : MaxAt w) (hb : Below w.heap.size w w') : MaxAt w' := by
  obtain ⟨m, hm⟩ := h
  refine ⟨m, ?_⟩
  rw [hb.cell (p := ⟨0, 0, none⟩) (World.block_lt_of_cell? w _ hm)]; exact hm
theorem any_bad (l : List ByteArray) : l.any (fun x => !goodL x.data.toList) = true ↔ ∃ x ∈ ls l, goodL x = false := by
  rw [List.any_eq_true]
  constructor
  · rintro ⟨x, hx, h⟩; exact ⟨_, List.mem_map.2 ⟨x, hx, rfl⟩, by simpa using h⟩
  · rintro ⟨y, hy, h⟩
    obtain ⟨x, hx, rfl⟩ := List.mem_map.1 hy
    exact ⟨x, hx, by simpa using h⟩

set_option maxHeartbeats 1000000 in
set_option maxRecDepth 100000 in
theorem check_any (a : Option Addr) (n c : Nat) (l : List ByteArray) (w : World) (hS : StrsAt w a n l) :
    Calls Tryz.prog 99 #[.slice a n c] w fun e w' => e = .returned (.int .i64 (checkE (ls l))) ∧ Below w.heap.size w w' := by
  have hl := hS.1
  have cc := containsFunc_grows 160 #[] (fun args w => rfl) (fun x => !goodL x.data.toList) a n c l w hS
    (fun W _ x _ => (checkClos_any x W).mono fun e w' h => ⟨h.1, by obtain ⟨_, rfl⟩ := h; exact Below.refl _ _⟩)
  by_cases h0 : n = 0
  · have HX : Hid (checkE (ls l) = 30) := by
      unfold Hid checkE; rw [if_pos (.inl (List.length_eq_zero_iff.1 (by rw [ls_length]; omega)))]
    have hb : ((n : Int) == 0) = true := by simp; omega
    clear cc
    go_enter Tryz.func99, Tryz.ntmps99
    go_wp2
    go_ret
    exact ⟨ret_int (by rw [HX.out]), Below.refl _ _⟩
  · have hb : ((n : Int) == 0) = false := by simp; omega
    by_cases hany : l.any (fun x => !goodL x.data.toList) = true
    · have HX : Hid (checkE (ls l) = 30) := by unfold Hid checkE; rw [if_pos (.inr ((any_bad l).1 hany))]
      rw [hany] at cc
      have CC := hid cc; clear cc hany
      go_enter Tryz.func99, Tryz.ntmps99
      go_wp2_with (go_at_call 162; refine CC.out.mono ?_; rintro e w1 ⟨rfl, hb1⟩)
      go_ret
      exact ⟨ret_int (by rw [HX.out]), hb1⟩
    · have hf : l.any (fun x => !goodL x.data.toList) = false := by simpa using hany
      have hno : ¬ (ls l = [] ∨ ∃ x ∈ ls l, goodL x = false) := by
        rintro (h | h)
        · have := congrArg List.length h; rw [ls_length] at this; simp at this; rw [this] at hl; simp at hl; omega
        · exact hany ((any_bad l).2 h)
      rw [hf] at cc
      have CC := hid cc; clear cc hany hf
      by_cases h64 : 64 < n
      · have HX : Hid (checkE (ls l) = 33) := by unfold Hid checkE; rw [if_neg hno, if_pos (by rw [ls_length]; omega)]
        have hn : (64 : Int) < n := by omega
        clear hno
        go_enter Tryz.func99, Tryz.ntmps99
        go_wp2_with (go_at_call 162; refine CC.out.mono ?_; rintro e w1 ⟨rfl, hb1⟩)
        go_ret
        exact ⟨ret_int (by rw [HX.out]), hb1⟩
      · have HX : Hid (checkE (ls l) = 0) := by unfold Hid checkE; rw [if_neg hno, if_neg (by rw [ls_length]; omega)]
        have hn : ¬ (64 : Int) < n := by omega
        clear hno
        go_enter Tryz.func99, Tryz.ntmps99
        go_wp2_with (go_at_call 162; refine CC.out.mono ?_; rintro e w1 ⟨rfl, hb1⟩)
        go_ret
        exact ⟨ret_int (by rw [HX.out]), hb1⟩

/-- what Split hands back -/
def namesOf (s : List UInt8) : List (List UInt8) := if splitE s = 0 then pieces s else []
def SplitsTo (s : ByteArray) (v : Value) (w : World) : Prop := ∃ a c l, v = .slice a l.length c ∧ StrsAt w a l.length l ∧ ls l = namesOf s.data.toList ∧ (splitE s.data.toList ≠ 0 → v = .slice none 0 0)
def SplitsC (s : ByteArray) (v : Value) (w : World) : Prop := ∃ a l, v = .slice a l.length l.length ∧ StrsAt w a l.length l ∧ ls l = namesOf s.data.toList ∧ (splitE s.data.toList ≠ 0 → v = .slice none 0 0)
theorem strs_alloc (w : World) (l : List ByteArray) (T : TypeId) (hm : l.length ≤ 9223372036854775807) : StrsAt (w.alloc (.cells (l.map Value.string).toArray T)) (some ⟨w.heap.size, 0, none⟩) l.length l := by
  refine ⟨rfl, hm, ?_⟩
  by_cases h0 : l.length = 0
  · exact .inl h0
  · refine .inr ⟨w.heap.size, 0, rfl, fun j hj => ?_⟩
    rw [Nat.zero_add, World.cell?_alloc_mark]
    simp [List.getElem?_eq_getElem hj]

set_option maxHeartbeats 1000000 in
theorem splitC_any (s : ByteArray) (w : World) (hs : s.size < 4294967281) (hm : MaxAt w) :
    Calls Tryz.prog 54 #[.string s] w fun e w' => ∃ v, e = .returned (.tuple #[v, .int .i64 (splitE s.data.toList)]) ∧ SplitsC s v w' ∧ Below w.heap.size w w' := by
  obtain ⟨m, hm⟩ := hm
  have cS := Tryz.strings_Split s slash m w hs hm (by decide)
  have hlen : (Lib.splitB slash 0 (Lib.countB s slash) s).length = Lib.countB s slash + 1 := Lib.splitB_all slash (by decide) 0 _ s rfl
  have hls := splitB_pieces s
  have hcl := Lib.countB_le slash (by decide) s.size s (Nat.le_refl _)
  obtain ⟨l, hl⟩ : ∃ l, Lib.splitB slash 0 (Lib.countB s slash) s = l := ⟨_, rfl⟩
  rw [hl] at cS hlen hls
  obtain ⟨k, hk⟩ : ∃ k, Lib.countB s slash = k := ⟨_, rfl⟩
  rw [hk] at cS hlen hcl
  have hlm : l.length ≤ 9223372036854775807 := by omega
  have hS := strs_alloc w l 9 hlm
  have hbel : Below w.heap.size w (w.alloc (.cells (l.map Value.string).toArray 9)) := (Below.refl _ _).alloc (Nat.le_refl _) _
  rw [← hlen] at cS
  obtain ⟨w1, hw1⟩ : ∃ w1, w.alloc (.cells (l.map Value.string).toArray 9) = w1 := ⟨_, rfl⟩
  rw [hw1] at cS hS hbel
  obtain ⟨q, hq⟩ : ∃ q, w.heap.size = q := ⟨_, rfl⟩
  have hS' := hS
  rw [hq] at cS hS
  have cC := check_any (some ⟨q, 0, none⟩) l.length l.length l w1 hS
  have hE : checkE (ls l) = splitE s.data.toList := by unfold splitE ls; rw [hls]
  rw [hE] at cC
  have HL : Hid (ls l = pieces s.data.toList) := hls
  obtain ⟨E, hEE⟩ : ∃ E, splitE s.data.toList = E := ⟨_, rfl⟩
  rw [hEE] at cC
  have HEE := hid hEE
  have CS := hid cS; have CC := hid cC
  clear cS cC hlen hls hl hk hcl hE hEE hw1 hm hS' hq
  by_cases h0 : E = 0
  · subst h0
    go_enter Tryz.func54, Tryz.ntmps54
    go_wp2_with (first
      | (go_at_call 98; refine CS.out.mono ?_; rintro e w2 ⟨rfl, hw⟩; obtain rfl := hw.symm)
      | (go_at_call 99; refine CC.out.mono ?_; rintro e w2 ⟨rfl, hb2⟩))
    go_ret2
    exact ⟨_, by rw [HEE.out]; rfl, ⟨_, l, rfl, hS.later hb2, by unfold namesOf; rw [if_pos HEE.out]; exact HL.out, fun h => absurd HEE.out h⟩, below_then hbel hb2⟩
  · have e1 : (E != 0) = true := by simpa using h0
    have e2 : (E == 0) = false := by simpa using h0
    have H0 := hid h0; clear h0
    go_enter Tryz.func54, Tryz.ntmps54
    go_wp2_with (first
      | (go_at_call 98; refine CS.out.mono ?_; rintro e w2 ⟨rfl, hw⟩; obtain rfl := hw.symm)
      | (go_at_call 99; refine CC.out.mono ?_; rintro e w2 ⟨rfl, hb2⟩))
    go_ret2
    exact ⟨_, by rw [HEE.out]; rfl, ⟨none, [], rfl, ⟨rfl, by simp, .inl rfl⟩, by unfold namesOf; rw [if_neg (by rw [HEE.out]; exact H0.out)]; rfl, fun _ => rfl⟩, below_then hbel hb2⟩
theorem split_any (s : ByteArray) (w : World) (hs : s.size < 4294967281) (hm : MaxAt w) :
    Calls Tryz.prog 54 #[.string s] w fun e w' => ∃ v, e = .returned (.tuple #[v, .int .i64 (splitE s.data.toList)]) ∧ SplitsTo s v w' ∧ Below w.heap.size w w' :=
  (splitC_any s w hs hm).mono fun e w' ⟨v, he, ⟨a, l, h1, h2, h3, h4⟩, hb⟩ => ⟨v, he, ⟨a, l.length, l, h1, h2, h3, h4⟩, hb⟩

/-- what Join hands back -/
def joinR (l : List (List UInt8)) : List UInt8 := if checkE l = 0 then joinL l else []
end Go.Proofs.YtlenfiiocmchdaaGreatDoor
/-
  FOR A PROOF OF AN '..UptoSaid': WHAT THE BOUND GIVES. Copy it as <Name>Bulk.lean (put your seat's Name for YtlenfiiocmchdaaGreatDoor, the bound of 'uptoSmall' for 1048576), name it in GOCLAIM.json's 'order' behind <Name>Rows. By an AI agent, Sun Nov 15 2026. No person has read it. No macro, syntax, notation, axiom, sorry.
-/
namespace Go.Proofs.YtlenfiiocmchdaaGreatDoor.bulks

theorem one_le {H : Type} (d : DataW H) : 1 ≤ Rows.uptoBulk d := by
  cases d with
  | lit l => cases l <;> simp [Rows.uptoBulk]
  | nil => simp [Rows.uptoBulk]
  | ptr d => simp [Rows.uptoBulk]
  | slice elems spare => simp [Rows.uptoBulk]
  | agg parts => simp [Rows.uptoBulk]
  | iface t d => simp [Rows.uptoBulk]
  | map entries => simp [Rows.uptoBulk]
  | held h => simp [Rows.uptoBulk]

/-- a part's bulk is at most the whole's -/
theorem part_le {H : Type} {d : DataW H} {l : List (DataW H)} (h : d ∈ l) : Rows.uptoBulk d ≤ Rows.uptoBulkAll l := by
  induction l with
  | nil => cases h
  | cons x r ih =>
    simp only [Rows.uptoBulkAll]
    cases List.mem_cons.1 h with
    | inl e => subst e; omega
    | inr e => have := ih e; omega

theorem append {H : Type} (l r : List (DataW H)) : Rows.uptoBulkAll (l ++ r) = Rows.uptoBulkAll l + Rows.uptoBulkAll r := by
  induction l with
  | nil => simp [Rows.uptoBulkAll]
  | cons x l ih => simp only [List.cons_append, Rows.uptoBulkAll, ih]; omega

/-- so many values at the most -/
theorem length_le {H : Type} (l : List (DataW H)) : l.length ≤ Rows.uptoBulkAll l := by
  induction l with
  | nil => simp [Rows.uptoBulkAll]
  | cons x r ih => have := one_le x; simp only [Rows.uptoBulkAll, List.length_cons]; omega

/-- a slice's places, and what they hold -/
theorem slice_le {H : Type} (elems spare : List (DataW H)) : elems.length + spare.length + 1 ≤ Rows.uptoBulk (.slice elems spare) := by
  have h1 := length_le elems
  have h2 := length_le spare
  simp only [Rows.uptoBulk]
  omega
theorem slice_elems {H : Type} (elems spare : List (DataW H)) : Rows.uptoBulkAll elems + 1 ≤ Rows.uptoBulk (.slice elems spare) := by
  simp only [Rows.uptoBulk]
  omega

/-- a string's letters -/
theorem string_eq {H : Type} (bytes : List UInt8) : Rows.uptoBulk (DataW.lit (H := H) (.string bytes)) = bytes.length + 1 := by
  simp [Rows.uptoBulk]

/-- THE BOUND, as the builder hands it over ('hk') -/
theorem bound {H : Type} {l : List (DataW H)} (hk : Rows.uptoSmall H l = true) : Rows.uptoBulkAll l ≤ 1048576 := by
  simpa [Rows.uptoSmall] using hk

/-- ROOM: a slice of n elements of b bytes, grown by append: below the 2^48 bytes that append, make and a Builder bear. Here n up to 2^21, b up to 4,096: put your own numbers. -/
theorem room {n b : Nat} (hn : n ≤ 2097152) (hb : b ≤ 4096) : (n + n / 4 + 192) * b ≤ 281474976710656 := by
  have h : (n + n / 4 + 192) * b ≤ 2621632 * 4096 := Nat.mul_le_mul (by omega) hb
  omega

end Go.Proofs.YtlenfiiocmchdaaGreatDoor.bulks
/- An argument that is a slice of strings, opened, with what the bound gives; a world in which the listed tables lie; what the shaped world says of the library's length variable. -/
namespace Go.Proofs.YtlenfiiocmchdaaGreatDoor
open Go.ChangeShapes Go.WideShapes Go.ChangeAt Go.RowKit
set_option linter.unusedVariables false

set_option maxRecDepth 100000 in
theorem maxAt_shaped {W : World} (h : W.ShapedOpen Tryz.prog) : MaxAt W :=
  Go.Proofs.cell_of_shapedOpen_int (zero := #[.int .i64 0]) (t := 3) h (of_decide_eq_true (by kernel_rfl)) (by kernel_rfl) rfl (by kernel_rfl) (by kernel_rfl) Tryz.underlying3
theorem bytes_size (x : ByteArray) : x.data.toList.length = x.size := Array.length_toList
set_option maxRecDepth 100000 in
theorem open_strs {H : Type} {enc : TypeId × Value → H} {r : Reach} {b0 : Nat} {W : World} {held : Bool} {v : Value} {d : DataW H} {p : List MemPlace} {base : Nat} (hv : Value.okWide Tryz.prog W r b0 56 v) (h : DataW.Trod enc Tryz.prog W base (fun _ => true) held 56 v d p) :
    ∃ a n c l, v = .slice a n c ∧ StrsAt W a n l ∧ n ≤ c ∧ c ≤ maxLen ∧ ∀ x ∈ l, x.size ≤ Rows.uptoBulk d := by
  obtain ⟨a, n, c, rfl⟩ := okWide_slice Tryz.underlying56 hv
  obtain ⟨fuel, hf⟩ := h
  rcases open_strings Tryz.underlying56 Tryz.underlying9 (by kernel_rfl) hf with ⟨hcs, _⟩ | ⟨x, l, c, ss, hcs, _, hl, hm, hz, hx, hcell, hws⟩
  · simp [Value.cells] at hcs
    obtain ⟨rfl, rfl, rfl⟩ := hcs
    exact ⟨none, 0, 0, [], rfl, ⟨rfl, by omega, .inl rfl⟩, by omega, by unfold maxLen; omega, fun x hx => by cases hx⟩
  · simp [Value.cells] at hcs
    obtain ⟨rfl, rfl, rfl⟩ := hcs
    refine ⟨_, _, _, ss.take n, rfl, ?_, hl, hm, ?_⟩
    · exact strsAt_of hl hm hz hcell
    · intro y hy
      have hd : d = .slice (strs (ss.take n)) (strs (ss.drop n)) := (Prod.mk.inj hx).1
      rw [hd]
      have h1 : (DataW.lit (.string y.data.toList) : DataW H) ∈ strs (ss.take n) := by unfold strs; exact List.mem_map.2 ⟨y, hy, rfl⟩
      have h2 := bulks.part_le h1
      have h3 := bulks.slice_elems (strs (ss.take n) : List (DataW H)) (strs (ss.drop n))
      rw [bulks.string_eq, bytes_size] at h2
      omega

/-- the listed tables, as they lie -/
def lay (C : Array Value) : Obj → Obj
  | .cells _ t frozen => .cells C t frozen
  | o => o
noncomputable def laidWorld (os : Os) : World :=
  { World.holding Tryz.prog os ⟨#[], #[], []⟩ with heap := ((World.holding Tryz.prog os ⟨#[], #[], []⟩).heap.modify 1 (lay (Go.Pinned.utf8FirstZ.map fun n : Nat => Value.int .u8 (Int.ofNat n)).toArray)).modify 2 (lay ([128, 191, 160, 191, 128, 159, 144, 191, 128, 143, 0, 0, 0, 0, 0, 0, 0, 0, 0, 0, 0, 0, 0, 0, 0, 0, 0, 0, 0, 0, 0, 0].map fun n => Value.int .u8 n).toArray) }
end Go.Proofs.YtlenfiiocmchdaaGreatDoor
/- The book's bytes: numbers, texts, readers, transactions: plain Lean. -/
namespace Go.Proofs.YtlenfiiocmchdaaGreatDoor.Book
open Go.RowKit
set_option linter.unusedVariables false

/-! numbers -/
def numL (n : Nat) : List UInt8 := [UInt8.ofNat n, UInt8.ofNat (n / 256), UInt8.ofNat (n / 65536), UInt8.ofNat (n / 16777216)]
def numV : List UInt8 → Nat
  | a :: b :: c :: d :: _ => a.toNat + 256 * b.toNat + 65536 * c.toNat + 16777216 * d.toNat
  | _ => 0
theorem numL_len (n : Nat) : (numL n).length = 4 := rfl
theorem numV_numL (n : Nat) (h : n < 4294967296) (r : List UInt8) : numV (numL n ++ r) = n := by
  show (UInt8.ofNat n).toNat + 256 * (UInt8.ofNat (n / 256)).toNat + 65536 * (UInt8.ofNat (n / 65536)).toNat + 16777216 * (UInt8.ofNat (n / 16777216)).toNat = n
  simp only [UInt8.toNat_ofNat']
  omega
theorem numV_lt (l : List UInt8) : numV l < 4294967296 := by
  unfold numV
  split
  · rename_i a b c d _
    have := a.toNat_lt; have := b.toNat_lt; have := c.toNat_lt; have := d.toNat_lt
    omega
  · omega
theorem numV_take {l : List UInt8} (r : List UInt8) (h : l.length = 4) : numV (l ++ r) = numV l := by
  match l, h with
  | [a, b, c, d], _ => rfl
theorem numL_numV {l : List UInt8} (h : l.length = 4) : numL (numV l) = l := by
  match l, h with
  | [a, b, c, d], _ =>
    have ha := a.toNat_lt; have hb := b.toNat_lt; have hc := c.toNat_lt; have hd := d.toNat_lt
    show [UInt8.ofNat (a.toNat + 256 * b.toNat + 65536 * c.toNat + 16777216 * d.toNat), UInt8.ofNat ((a.toNat + 256 * b.toNat + 65536 * c.toNat + 16777216 * d.toNat) / 256), UInt8.ofNat ((a.toNat + 256 * b.toNat + 65536 * c.toNat + 16777216 * d.toNat) / 65536), UInt8.ofNat ((a.toNat + 256 * b.toNat + 65536 * c.toNat + 16777216 * d.toNat) / 16777216)] = [a, b, c, d]
    have key : ∀ (x : UInt8) (m : Nat), m % 256 = x.toNat → UInt8.ofNat m = x := fun x m hm => by
      apply UInt8.toNat_inj.1; rw [UInt8.toNat_ofNat']; exact hm
    rw [key a _ (by omega), key b _ (by omega), key c _ (by omega), key d _ (by omega)]
/-! readers -/
structure Rd where
  rest : List UInt8
  bad : Bool
def newR (s : List UInt8) : Rd := ⟨s, false⟩
def takeR (r : Rd) (n : Nat) : List UInt8 × Rd := if r.bad = true ∨ r.rest.length < n then ([], ⟨[], true⟩) else (r.rest.take n, ⟨r.rest.drop n, false⟩)
def numR (r : Rd) : Nat × Rd := (numV (takeR r 4).1, (takeR r 4).2)
def textR (r : Rd) (most : Nat) : List UInt8 × Rd := takeR (if most < (numR r).1 then ⟨[], true⟩ else (numR r).2) (numR r).1
def wholeR (r : Rd) : Bool := !r.bad && r.rest.isEmpty
theorem takeR_app (a b : List UInt8) : takeR ⟨a ++ b, false⟩ a.length = (a, ⟨b, false⟩) := by
  unfold takeR
  rw [if_neg (by simp)]
  simp
theorem numR_app (n : Nat) (h : n < 4294967296) (b : List UInt8) : numR ⟨numL n ++ b, false⟩ = (n, ⟨b, false⟩) := by
  unfold numR
  have := takeR_app (numL n) b
  rw [numL_len] at this
  rw [this]
  have h2 := numV_numL n h []
  rw [List.append_nil] at h2
  simp [h2]
def textL (s : List UInt8) : List UInt8 := numL s.length ++ s
theorem textR_app (s b : List UInt8) (most : Nat) (h : s.length ≤ most) (h32 : s.length < 4294967296) : textR ⟨textL s ++ b, false⟩ most = (s, ⟨b, false⟩) := by
  unfold textR textL
  rw [List.append_assoc, numR_app _ h32]
  simp only
  rw [if_neg (by omega)]
  exact takeR_app s b
theorem takeR_bad (r : Rd) (n : Nat) (h : r.bad = true) : takeR r n = ([], ⟨[], true⟩) := by unfold takeR; rw [if_pos (.inl h)]
theorem takeR_short (r : Rd) (n : Nat) (h : r.rest.length < n) : takeR r n = ([], ⟨[], true⟩) := by unfold takeR; rw [if_pos (.inr h)]
theorem takeR_len (r : Rd) (n : Nat) (h : (takeR r n).2.bad = false) : (takeR r n).1.length = n ∧ r.rest = (takeR r n).1 ++ (takeR r n).2.rest ∧ r.bad = false := by
  unfold takeR at h ⊢
  split at h
  · cases h
  · rename_i hc
    rw [if_neg hc]
    simp only [not_or] at hc
    refine ⟨by simp; omega, by simp, by simpa using hc.1⟩

/-! transactions -/
def bodyL (rs : List (List UInt8)) : List UInt8 := numL rs.length ++ rs.flatMap textL
section
variable (crc : List UInt8 → Nat)
def frameL (b : List UInt8) : List UInt8 := numL b.length ++ numL (crc b) ++ b
def deedL (rs : List (List UInt8)) : List UInt8 := frameL crc (bodyL rs)
def deedsL (l : List (List (List UInt8))) : List UInt8 := l.flatMap (deedL crc)
/-- so many texts -/
def textsR : Nat → Rd → List (List UInt8) × Rd
  | 0, r => ([], r)
  | n + 1, r => ((textR r 262144).1 :: (textsR n (textR r 262144).2).1, (textsR n (textR r 262144).2).2)
/-- the records of a body -/
def recordsR (s : List UInt8) : Option (List (List UInt8)) :=
  if 1048576 < s.length ∨ (numR (newR s)).1 < 1 ∨ 64 < (numR (newR s)).1 then none
  else if wholeR (textsR (numR (newR s)).1 (numR (newR s)).2).2 = true then some (textsR (numR (newR s)).1 (numR (newR s)).2).1 else none
/-- the transaction that stands first, and how many bytes its body has -/
def stepR (s : List UInt8) : Option (List (List UInt8) × Nat) :=
  let n := numR (newR s)
  let c := numR n.2
  let b := takeR c.2 n.1
  if b.2.bad = true ∨ crc b.1 ≠ c.1 then none else (recordsR b.1).map (fun l => (l, n.1))
/-- what counts -/
def readF : Nat → List UInt8 → List (List (List UInt8)) × Nat
  | 0, _ => ([], 0)
  | f + 1, s => match stepR crc s with
    | none => ([], 0)
    | some (l, n) => (l :: (readF f (s.drop (8 + n))).1, 8 + n + (readF f (s.drop (8 + n))).2)
def readR (s : List UInt8) : List (List (List UInt8)) × Nat := readF crc s.length s
end
end Go.Proofs.YtlenfiiocmchdaaGreatDoor.Book
/- Texts in rising order: where one stands. No program. -/
namespace Go.Proofs.YtlenfiiocmchdaaGreatDoor
open Go.RowKit
set_option linter.unusedVariables false

def lt' (a b : ByteArray) : Bool := Op.bytesLess a.toList b.toList
theorem bl_irr : ∀ a : List UInt8, Op.bytesLess a a = false
  | [] => rfl
  | c :: a => by unfold Op.bytesLess; simp [bl_irr a]
theorem bl_trans : ∀ a b c : List UInt8, Op.bytesLess a b = true → Op.bytesLess b c = true → Op.bytesLess a c = true
  | [], [], _, h, _ => by simp [Op.bytesLess] at h
  | _ :: _, [], _, h, _ => by simp [Op.bytesLess] at h
  | _, _ :: _, [], _, h => by simp [Op.bytesLess] at h
  | [], _ :: _, _ :: _, _, _ => by simp [Op.bytesLess]
  | x :: a, y :: b, z :: c, h1, h2 => by
    unfold Op.bytesLess at h1 h2 ⊢
    simp only [Bool.or_eq_true, decide_eq_true_eq, Bool.and_eq_true, beq_iff_eq] at h1 h2 ⊢
    rcases h1 with h1 | ⟨rfl, h1⟩
    · rcases h2 with h2 | ⟨rfl, h2⟩
      · exact .inl (UInt8.lt_trans h1 h2)
      · exact .inl h1
    · rcases h2 with h2 | ⟨rfl, h2⟩
      · exact .inl h2
      · exact .inr ⟨rfl, bl_trans a b c h1 h2⟩
theorem bl_tri : ∀ a b : List UInt8, Op.bytesLess a b = false → Op.bytesLess b a = false → a = b
  | [], [], _, _ => rfl
  | [], _ :: _, h, _ => by simp [Op.bytesLess] at h
  | _ :: _, [], _, h => by simp [Op.bytesLess] at h
  | x :: a, y :: b, h1, h2 => by
    unfold Op.bytesLess at h1 h2
    simp only [Bool.or_eq_false_iff, decide_eq_false_iff_not, Bool.and_eq_false_iff, beq_eq_false_iff_ne] at h1 h2
    have e : x = y := by
      apply UInt8.toNat_inj.1
      have := h1.1; have := h2.1
      rw [UInt8.lt_iff_toNat_lt] at *
      omega
    subst e
    rw [bl_tri a b (h1.2.resolve_left (fun h => h rfl)) (h2.2.resolve_left (fun h => h rfl))]
theorem lt_irr (a : ByteArray) : lt' a a = false := bl_irr _
theorem lt_trans {a b c : ByteArray} (h1 : lt' a b = true) (h2 : lt' b c = true) : lt' a c = true := bl_trans _ _ _ h1 h2
theorem lt_tri {a b : ByteArray} (h1 : lt' a b = false) (h2 : lt' b a = false) : a = b := by
  have := bl_tri _ _ h1 h2
  rw [ba_toList, ba_toList] at this
  exact ba_ext this
theorem lt_asymm {a b : ByteArray} (h : lt' a b = true) : lt' b a = false := by
  cases h2 : lt' b a
  · rfl
  · have := lt_trans h h2; rw [lt_irr] at this; cases this

/-- in rising order, each once -/
def Rising (l : List ByteArray) : Prop := l.Pairwise (fun a b => lt' a b = true)
def posOf : List ByteArray → ByteArray → Nat
  | [], _ => 0
  | y :: r, x => if lt' y x = true then posOf r x + 1 else 0
theorem posOf_le : ∀ (l : List ByteArray) (x : ByteArray), posOf l x ≤ l.length
  | [], _ => Nat.le_refl _
  | y :: r, x => by unfold posOf; split <;> simp [posOf_le r x]
theorem posOf_at : ∀ {l : List ByteArray}, Rising l → ∀ (x : ByteArray) (t : Nat), t < l.length → lt' (l.getD t ByteArray.empty) x = decide (t < posOf l x)
  | [], _, _, t, h => absurd h (Nat.not_lt_zero _)
  | y :: r, hr, x, t, h => by
    obtain ⟨h1, h2⟩ := List.pairwise_cons.1 hr
    unfold posOf
    by_cases hy : lt' y x = true
    · rw [if_pos hy]
      cases t with
      | zero => simpa using hy
      | succ t => simp only [List.getD_cons_succ, posOf_at h2 x t (by simpa using h)]; simp
    · rw [if_neg hy]
      have hy' : lt' y x = false := by simpa using hy
      cases t with
      | zero => simpa using hy'
      | succ t =>
        simp only [List.getD_cons_succ, Nat.not_lt_zero, decide_false]
        cases h3 : lt' (r.getD t ByteArray.empty) x
        · rfl
        · have hm : r.getD t ByteArray.empty ∈ r := by
            rw [List.getD_eq_getElem?_getD, List.getElem?_eq_getElem (by simpa using h)]; exact List.getElem_mem _
          have := lt_trans (h1 _ hm) h3
          rw [this] at hy'; cases hy'
theorem posOf_mem : ∀ {l : List ByteArray}, Rising l → ∀ x : ByteArray, (posOf l x < l.length ∧ l.getD (posOf l x) ByteArray.empty = x) ↔ x ∈ l
  | [], _, _ => by simp [posOf]
  | y :: r, hr, x => by
    obtain ⟨h1, h2⟩ := List.pairwise_cons.1 hr
    have ih := posOf_mem h2 x
    unfold posOf
    by_cases hy : lt' y x = true
    · rw [if_pos hy]
      simp only [List.length_cons, Nat.add_lt_add_iff_right, List.getD_cons_succ, ih, List.mem_cons]
      constructor
      · exact .inr
      · rintro (rfl | h)
        · rw [lt_irr] at hy; cases hy
        · exact h
    · rw [if_neg hy]
      have hy' : lt' y x = false := by simpa using hy
      simp only [List.length_cons, Nat.zero_lt_succ, List.getD_cons_zero, true_and, List.mem_cons]
      constructor
      · intro e; exact .inl e.symm
      · rintro (e | h)
        · exact e.symm
        · have := h1 x h; rw [this] at hy'; cases hy'
def hasN (l : List ByteArray) (x : ByteArray) : Bool := decide (∃ o ∈ l, o = x)
theorem hasN_iff {l : List ByteArray} {x : ByteArray} : hasN l x = true ↔ x ∈ l := by unfold hasN; rw [decide_eq_true_eq]; simp
theorem hasN_no {l : List ByteArray} {x : ByteArray} : hasN l x = false ↔ x ∉ l := by rw [← hasN_iff]; simp
def putN (l : List ByteArray) (x : ByteArray) : List ByteArray := if hasN l x = true then l else l.take (posOf l x) ++ x :: l.drop (posOf l x)
def delN (l : List ByteArray) (x : ByteArray) : List ByteArray := if hasN l x = true then l.take (posOf l x) ++ l.drop (posOf l x + 1) else l
theorem take_lt {l : List ByteArray} (hr : Rising l) (x : ByteArray) : ∀ y ∈ l.take (posOf l x), lt' y x = true := by
  intro y hy
  obtain ⟨j, hj, rfl⟩ := List.getElem_of_mem hy
  rw [List.length_take] at hj
  have := posOf_at hr x j (by omega)
  rw [List.getD_eq_getElem?_getD, List.getElem?_eq_getElem (by omega)] at this
  simp only [Option.getD_some] at this
  rw [List.getElem_take, this]; exact decide_eq_true (by omega)
theorem drop_gt {l : List ByteArray} (hr : Rising l) {x : ByteArray} (hx : x ∉ l) : ∀ y ∈ l.drop (posOf l x), lt' x y = true := by
  intro y hy
  obtain ⟨j, hj, rfl⟩ := List.getElem_of_mem hy
  rw [List.length_drop] at hj
  have := posOf_at hr x (posOf l x + j) (by omega)
  rw [List.getD_eq_getElem?_getD, List.getElem?_eq_getElem (by omega)] at this
  simp only [Option.getD_some] at this
  rw [List.getElem_drop]
  cases h : lt' x l[posOf l x + j]
  · have e := lt_tri h (this.trans (decide_eq_false (by omega)))
    exact absurd (e ▸ List.getElem_mem _) hx
  · rfl
theorem putN_rising {l : List ByteArray} (hr : Rising l) (x : ByteArray) : Rising (putN l x) := by
  unfold putN
  split
  · exact hr
  · rename_i hx
    rw [hasN_iff] at hx
    have h0 : (l.take (posOf l x) ++ l.drop (posOf l x)).Pairwise (fun a b => lt' a b = true) := by rw [List.take_append_drop]; exact hr
    obtain ⟨h1, h2, h3⟩ := List.pairwise_append.1 h0
    refine List.pairwise_append.2 ⟨h1, List.pairwise_cons.2 ⟨drop_gt hr hx, h2⟩, ?_⟩
    intro a ha b hb
    rcases List.mem_cons.1 hb with rfl | hb
    · exact take_lt hr _ a ha
    · exact h3 a ha b hb
theorem delN_rising {l : List ByteArray} (hr : Rising l) (x : ByteArray) : Rising (delN l x) := by
  unfold delN
  split
  · have h0 : (l.take (posOf l x) ++ l.drop (posOf l x)).Pairwise (fun a b => lt' a b = true) := by rw [List.take_append_drop]; exact hr
    obtain ⟨h1, h2, h3⟩ := List.pairwise_append.1 h0
    have hs : (l.drop (posOf l x + 1)).Sublist (l.drop (posOf l x)) := by
      rw [← List.drop_drop]; exact List.drop_sublist _ _
    exact List.pairwise_append.2 ⟨h1, h2.sublist hs, fun a ha b hb => h3 a ha b (hs.subset hb)⟩
  · exact hr
theorem pos_bool {l : List ByteArray} (hr : Rising l) (x : ByteArray) : decide (posOf l x < l.length ∧ l.getD (posOf l x) ByteArray.empty = x) = hasN l x := by
  rw [Bool.eq_iff_iff, decide_eq_true_eq, hasN_iff]; exact posOf_mem hr x
end Go.Proofs.YtlenfiiocmchdaaGreatDoor
/- Objects (layer 6): plain Lean. -/
namespace Go.Proofs.YtlenfiiocmchdaaGreatDoor.Ojt
open Go.RowKit Book Pap
set_option linter.unusedVariables false

def bz (l : List UInt8) : ByteArray := ⟨l.toArray⟩
structure Ent where
  name : ByteArray
  kind : Int
  id : ByteArray
  deriving DecidableEq
structure Ob where
  kind : Int
  data : ByteArray
  ents : List Ent
  tree : ByteArray
  pars : List ByteArray
  height : Int
  note : ByteArray
  deriving DecidableEq
structure Lnk where
  kind : Int
  id : ByteArray
  deriving DecidableEq
def zero : Ob := ⟨0, ByteArray.empty, [], ByteArray.empty, [], 0, ByteArray.empty⟩
/-- each behind the one ahead of it -/
def risingB : List ByteArray → Bool
  | [] => true
  | [_] => true
  | a :: b :: r => lt' a b && risingB (b :: r)
def goodEnt (e : Ent) : Bool := goodL e.name.data.toList && (decide (e.kind = 1) || decide (e.kind = 2)) && decide (e.id.size = 32)
def goodTree (l : List Ent) : Bool := l.all goodEnt && (decide (l.length ≤ 256) && risingB (l.map (·.name)))
def goodPars (l : List ByteArray) : Bool := decide (l.length ≤ 8) && (risingB l && l.all (fun p => decide (p.size = 32)))
def goodCommit (x : Ob) : Bool := goodPars x.pars && (decide (0 ≤ x.height) && (decide (x.height ≤ 1073741824) && decide (0 < x.height ↔ x.pars ≠ []))) && (decide (x.tree.size = 32) && decide (x.note.size ≤ 1000))
/-- whether an object can be -/
def good (x : Ob) : Bool :=
  if x.kind = 1 then decide (x.data.size ≤ 65536) else if x.kind = 2 then goodTree x.ents else if x.kind = 3 then goodCommit x else false
/-! bytes -/
def entL (e : Ent) : List UInt8 := UInt8.ofNat e.kind.toNat :: textL e.name.data.toList ++ e.id.data.toList
def encL (x : Ob) : List UInt8 :=
  if x.kind = 1 then 1 :: x.data.data.toList
  else if x.kind = 2 then 2 :: numL x.ents.length ++ x.ents.flatMap entL
  else 3 :: x.tree.data.toList ++ numL x.pars.length ++ x.pars.flatMap (fun p => p.data.toList) ++ numL x.height.toNat ++ textL x.note.data.toList
def kindR (r : Rd) : Int × Rd := ((((takeR r 1).1.headD 0).toNat : Int), (takeR r 1).2)
def entR (r : Rd) : Ent × Rd :=
  (⟨bz (textR (kindR r).2 255).1, (kindR r).1, bz (takeR (textR (kindR r).2 255).2 32).1⟩, (takeR (textR (kindR r).2 255).2 32).2)
def entsR : Nat → Rd → List Ent × Rd
  | 0, r => ([], r)
  | n + 1, r => if r.bad = true then ([], r) else ((entR r).1 :: (entsR n (entR r).2).1, (entsR n (entR r).2).2)
def spoil (r : Rd) (n most : Nat) : Rd := if most < n then ⟨[], true⟩ else r
def treeR (r : Rd) : List Ent × Rd := entsR (numR r).1 (spoil (numR r).2 (numR r).1 256)
def idsR : Nat → Rd → List ByteArray × Rd
  | 0, r => ([], r)
  | n + 1, r => if r.bad = true then ([], r) else (bz (takeR r 32).1 :: (idsR n (takeR r 32).2).1, (idsR n (takeR r 32).2).2)
def parsR (r : Rd) : List ByteArray × Rd := idsR (numR r).1 (spoil (numR r).2 (numR r).1 8)
def blobO (s : List UInt8) : Ob := { zero with kind := 1, data := bz s }
def treeO (s : List UInt8) : Ob := { zero with kind := 2, ents := (treeR (newR s)).1 }
def commitO (s : List UInt8) : Ob :=
  let t := takeR (newR s) 32
  let p := parsR t.2
  let h := numR p.2
  let n := textR h.2 1000
  { zero with kind := 3, tree := bz t.1, pars := p.1, height := h.1, note := bz n.1 }
def commitR (s : List UInt8) : Rd := (textR (numR (parsR (takeR (newR s) 32).2).2).2 1000).2
/-- the object of bytes -/
def dec : List UInt8 → Option Ob
  | [] => none
  | k :: s =>
    if k = 1 then (if good (blobO s) = true then some (blobO s) else none)
    else if k = 2 then (if wholeR (treeR (newR s)).2 = true ∧ good (treeO s) = true then some (treeO s) else none)
    else if k = 3 then (if wholeR (commitR s) = true ∧ good (commitO s) = true then some (commitO s) else none)
    else none
theorem dec_good {s : List UInt8} {x : Ob} (h : dec s = some x) : good x = true := by
  unfold dec at h
  split at h
  · cases h
  · split at h
    · split at h
      · rename_i hg; cases h; exact hg
      · cases h
    · split at h
      · split at h
        · rename_i hg; cases h; exact hg.2
        · cases h
      · split at h
        · split at h
          · rename_i hg; cases h; exact hg.2
          · cases h
        · cases h
/-! links -/
def ltK (a b : Lnk) : Bool := lt' a.id b.id || (decide (a.id = b.id) && decide (a.kind < b.kind))
theorem ltK_irr (a : Lnk) : ltK a a = false := by unfold ltK; rw [lt_irr]; simp
theorem ltK_trans {a b c : Lnk} (h1 : ltK a b = true) (h2 : ltK b c = true) : ltK a c = true := by
  unfold ltK at *
  simp only [Bool.or_eq_true, Bool.and_eq_true, decide_eq_true_eq] at *
  rcases h1 with h1 | ⟨e1, h1⟩
  · rcases h2 with h2 | ⟨e2, h2⟩
    · exact .inl (lt_trans h1 h2)
    · exact .inl (e2 ▸ h1)
  · rcases h2 with h2 | ⟨e2, h2⟩
    · exact .inl (e1 ▸ h2)
    · exact .inr ⟨e1.trans e2, by omega⟩
theorem ltK_tri {a b : Lnk} (h1 : ltK a b = false) (h2 : ltK b a = false) : a = b := by
  unfold ltK at *
  simp only [Bool.or_eq_false_iff, Bool.and_eq_false_iff, decide_eq_false_iff_not] at *
  have e := lt_tri h1.1 h2.1
  have k1 := h1.2.resolve_left (fun h => h e)
  have k2 := h2.2.resolve_left (fun h => h e.symm)
  cases a; cases b
  simp only at e k1 k2
  subst e
  congr
  omega
def insK : List Lnk → Lnk → List Lnk
  | [], x => [x]
  | y :: r, x => if y = x then y :: r else if ltK x y = true then x :: y :: r else y :: insK r x
def RisK (l : List Lnk) : Prop := l.Pairwise (fun a b => ltK a b = true)
theorem insK_mem : ∀ (l : List Lnk) (x y : Lnk), y ∈ insK l x ↔ y ∈ l ∨ y = x
  | [], x, y => by simp [insK]
  | z :: r, x, y => by
    unfold insK
    split
    · rename_i h; subst h
      constructor
      · exact .inl
      · rintro (h | h)
        · exact h
        · exact h ▸ List.mem_cons_self ..
    · split
      · simp only [List.mem_cons]; constructor
        · rintro (h | h | h)
          · exact .inr h
          · exact .inl (.inl h)
          · exact .inl (.inr h)
        · rintro ((h | h) | h)
          · exact .inr (.inl h)
          · exact .inr (.inr h)
          · exact .inl h
      · simp only [List.mem_cons, insK_mem r x y, or_assoc]
theorem insK_ris : ∀ {l : List Lnk}, RisK l → ∀ x, RisK (insK l x)
  | [], _, x => List.pairwise_singleton _ _
  | z :: r, h, x => by
    obtain ⟨h1, h2⟩ := List.pairwise_cons.1 h
    unfold insK
    split
    · exact h
    · rename_i hne
      split
      · rename_i hlt
        refine List.pairwise_cons.2 ⟨fun y hy => ?_, h⟩
        rcases List.mem_cons.1 hy with rfl | hy
        · exact hlt
        · exact ltK_trans hlt (h1 y hy)
      · rename_i hlt
        refine List.pairwise_cons.2 ⟨fun y hy => ?_, insK_ris h2 x⟩
        rcases (insK_mem r x y).1 hy with hy | rfl
        · exact h1 y hy
        · cases hzy : ltK z y
          · exact absurd (ltK_tri hzy (by simpa using hlt)) hne
          · rfl
/-- two rising lists of the same links are one -/
theorem risK_ext : ∀ {a b : List Lnk}, RisK a → RisK b → (∀ x, x ∈ a ↔ x ∈ b) → a = b
  | [], [], _, _, _ => rfl
  | [], y :: b, _, _, h => absurd ((h y).2 (List.mem_cons_self ..)) (List.not_mem_nil)
  | x :: a, [], _, _, h => absurd ((h x).1 (List.mem_cons_self ..)) (List.not_mem_nil)
  | x :: a, y :: b, ha, hb, h => by
    obtain ⟨a1, a2⟩ := List.pairwise_cons.1 ha
    obtain ⟨b1, b2⟩ := List.pairwise_cons.1 hb
    have hxy : x = y := by
      rcases List.mem_cons.1 ((h x).1 (List.mem_cons_self ..)) with e | hx
      · exact e
      · rcases List.mem_cons.1 ((h y).2 (List.mem_cons_self ..)) with e | hy
        · exact e.symm
        · have := ltK_trans (a1 y hy) (b1 x hx)
          rw [ltK_irr] at this; cases this
    subst hxy
    rw [risK_ext a2 b2 (fun z => ?_)]
    constructor
    · intro hz
      rcases List.mem_cons.1 ((h z).1 (List.mem_cons_of_mem _ hz)) with e | hz'
      · have := a1 z hz; rw [e, ltK_irr] at this; cases this
      · exact hz'
    · intro hz
      rcases List.mem_cons.1 ((h z).2 (List.mem_cons_of_mem _ hz)) with e | hz'
      · have := b1 z hz; rw [e, ltK_irr] at this; cases this
      · exact hz'
/-- what an object names, as it stands there -/
def rawLinks (x : Ob) : List Lnk := if x.kind = 2 then x.ents.map (fun e => ⟨e.kind, e.id⟩) else if x.kind = 3 then ⟨2, x.tree⟩ :: x.pars.map (fun p => ⟨3, p⟩) else []
def links (x : Ob) : List Lnk := if good x = true then (rawLinks x).foldl insK [] else []
theorem foldK : ∀ (l acc : List Lnk), RisK acc → RisK (l.foldl insK acc) ∧ ∀ x, x ∈ l.foldl insK acc ↔ x ∈ acc ∨ x ∈ l
  | [], acc, h => ⟨h, fun x => by simp⟩
  | y :: l, acc, h => by
    obtain ⟨h1, h2⟩ := foldK l (insK acc y) (insK_ris h y)
    refine ⟨h1, fun x => ?_⟩
    rw [List.foldl_cons, h2, insK_mem, List.mem_cons, or_assoc]
theorem links_ris (x : Ob) : RisK (links x) := by
  unfold links; split
  · exact (foldK _ [] List.Pairwise.nil).1
  · exact List.Pairwise.nil
theorem links_mem {x : Ob} (h : good x = true) (l : Lnk) : l ∈ links x ↔ l ∈ rawLinks x := by
  unfold links; rw [if_pos h, (foldK _ [] List.Pairwise.nil).2]; simp
/-- the height over heights -/
def heightL : List Int → Int
  | [] => 0
  | a :: l => l.foldl max a + 1
end Go.Proofs.YtlenfiiocmchdaaGreatDoor.Ojt
/- Plain functions of layer 3 (ids and their digits), and what they come to; no program in sight. -/
namespace Go.Proofs.YtlenfiiocmchdaaGreatDoor.Idp

/-- a half of a byte -/
def nibB (b : Nat) (k : Nat) : Nat := if k % 2 = 0 then b / 16 else b % 16
def byteAt (s : ByteArray) (i : Nat) : Nat := (s.data.toList.getD i 0).toNat
def digitN (s : ByteArray) (k : Nat) : Nat := nibB (byteAt s (k / 2)) k
def digitZ (s : ByteArray) (k : Int) : Int := if s.size = 32 ∧ 0 ≤ k ∧ k < 64 then ((digitN s k.toNat : Nat) : Int) else -1
def hexChar (n : Nat) : UInt8 := (if n < 10 then 48 + n else 87 + n).toUInt8
def hexUpto (s : ByteArray) (n : Nat) : List UInt8 := (List.range n).map fun k => hexChar (digitN s k)
def hexL (s : ByteArray) : List UInt8 := if s.size = 32 then hexUpto s 64 else []
def isHex (c : UInt8) : Bool := (48 ≤ c.toNat && c.toNat ≤ 57) || (97 ≤ c.toNat && c.toNat ≤ 102)
def hexVal (c : UInt8) : Nat := if c.toNat ≤ 57 then c.toNat - 48 else c.toNat - 87
def valueZ (c : UInt8) : Int := if isHex c then ((hexVal c : Nat) : Int) else -1
def areDig (l : List UInt8) : Bool := l.all isHex
def unhexUpto (l : List UInt8) (n : Nat) : List UInt8 := (List.range n).map fun k => (16 * hexVal (l.getD (2 * k) 0) + hexVal (l.getD (2 * k + 1) 0)).toUInt8
def unhexR (s : ByteArray) : List UInt8 × Int := if s.size ≠ 64 then ([], 1) else if areDig s.data.toList = false then ([], 4) else (unhexUpto s.data.toList 32, 0)
/-- how many of the digits k, k+1, .. 63 the two have alike -/
def shareFrom (a b : ByteArray) : Nat → Nat → Nat
  | 0, k => k
  | f + 1, k => if digitN a k = digitN b k then shareFrom a b f (k + 1) else k
def share (a b : ByteArray) : Nat := if a.size = 32 ∧ b.size = 32 then shareFrom a b 64 0 else 0
def has (id : ByteArray) (d : List UInt8) : Bool := decide (id.size = 32) && (areDig d && d.isPrefixOf (hexL id))
def findR (l : List ByteArray) (d : List UInt8) : ByteArray × Int :=
  if d.length > 64 ∨ areDig d = false then (ByteArray.empty, 4) else
  match l.filter (has · d) with
  | [] => (ByteArray.empty, 12)
  | x :: r => if r.all (fun y => decide (y = x)) then (x, 0) else (ByteArray.empty, 6)
def mostUpto (l : List ByteArray) (id : ByteArray) : Nat :=
  l.foldl (fun m o => if o ≠ id ∧ o.size = 32 then max m (share o id + 1) else m) 4
def shortR (l : List ByteArray) (id : ByteArray) : List UInt8 :=
  if id.size = 32 ∧ (∃ o ∈ l, o = id) then (hexL id).take (mostUpto l id) else []

theorem nibB_lt (b k : Nat) (h : b < 256) : nibB b k < 16 := by unfold nibB; split <;> omega
theorem byteAt_lt (s : ByteArray) (i : Nat) : byteAt s i < 256 := by unfold byteAt; exact (s.data.toList.getD i 0).toNat_lt
theorem digitN_lt (s : ByteArray) (k : Nat) : digitN s k < 16 := nibB_lt _ _ (byteAt_lt s _)
theorem digitZ_in {s : ByteArray} {k : Int} (hs : s.size = 32) (h0 : 0 ≤ k) (h1 : k < 64) : digitZ s k = ((digitN s k.toNat : Nat) : Int) := by
  unfold digitZ; rw [if_pos ⟨hs, h0, h1⟩]
theorem digitZ_bad {s : ByteArray} {k : Int} (h : ¬ s.size = 32) : digitZ s k = -1 := by
  unfold digitZ; rw [if_neg (fun x => h x.1)]
theorem digitZ_out {s : ByteArray} {k : Int} (h : ¬ (0 ≤ k ∧ k < 64)) : digitZ s k = -1 := by
  unfold digitZ; rw [if_neg (fun x => h x.2)]
theorem hexUpto_succ (s : ByteArray) (n : Nat) : hexUpto s (n + 1) = hexUpto s n ++ [hexChar (digitN s n)] := by
  unfold hexUpto; rw [List.range_succ, List.map_append]; rfl
theorem hexUpto_length (s : ByteArray) (n : Nat) : (hexUpto s n).length = n := by simp [hexUpto]
theorem unhexUpto_succ (l : List UInt8) (n : Nat) : unhexUpto l (n + 1) = unhexUpto l n ++ [(16 * hexVal (l.getD (2 * n) 0) + hexVal (l.getD (2 * n + 1) 0)).toUInt8] := by
  unfold unhexUpto; rw [List.range_succ, List.map_append]; rfl
theorem unhexUpto_length (l : List UInt8) (n : Nat) : (unhexUpto l n).length = n := by simp [unhexUpto]
theorem hexVal_lt (c : UInt8) (h : isHex c = true) : hexVal c < 16 := by
  simp [isHex] at h; unfold hexVal; split <;> omega
theorem areDig_getD {l : List UInt8} (h : areDig l = true) {k : Nat} (hk : k < l.length) : isHex (l.getD k 0) = true := by
  unfold areDig at h; rw [List.all_eq_true] at h
  rw [List.getD_eq_getElem?_getD, List.getElem?_eq_getElem hk]; exact h _ (List.getElem_mem hk)
theorem hexChar_digit (d : Nat) (h : d < 16) : isHex (hexChar d) = true ∧ hexVal (hexChar d) = d := by
  have : ∀ d : Fin 16, isHex (hexChar d) = true ∧ hexVal (hexChar d) = d := by decide +kernel
  exact this ⟨d, h⟩
theorem hexChar_val (c : UInt8) (h : isHex c = true) : hexChar (hexVal c) = c := by
  have : ∀ n : Fin 256, isHex (UInt8.ofNat n) = true → hexChar (hexVal (UInt8.ofNat n)) = UInt8.ofNat n := by decide +kernel
  have := this ⟨c.toNat, c.toNat_lt⟩
  simp only [UInt8.ofNat_toNat] at this
  exact this h
end Go.Proofs.YtlenfiiocmchdaaGreatDoor.Idp
/- The walks of layer 3's small functions: Good, Digit, Share, of the program and of the reference. -/
namespace Go.Proofs.YtlenfiiocmchdaaGreatDoor
open Go.RowKit Idp
set_option linter.unusedVariables false


theorem good_any (s : ByteArray) (w : World) : Calls Tryz.prog 232 #[.string s] w fun e w' => e = .returned (.bool (decide (s.size = 32))) ∧ w = w' := by
  go_enter Tryz.func232, Tryz.ntmps232
  go_wp2
  go_ret
  exact ⟨ret_bool (by rw [Bool.eq_iff_iff]; simp; omega), rfl⟩
theorem nib_bits (b : Nat) (hb : b < 256) (k : Int) (h0 : 0 ≤ k) : bits BinOp.and IntKind.i64 (wrap64 ((b : Int) / 2 ^ (4 - k % 2 * 4).toNat)) 15 = ((nibB b k.toNat : Nat) : Int) := by
  have key : ∀ b : Fin 256, bits BinOp.and IntKind.i64 (wrap64 ((b.val : Int) / 2 ^ (4 : Nat))) 15 = ((b.val / 16 : Nat) : Int) ∧ bits BinOp.and IntKind.i64 (wrap64 ((b.val : Int) / 2 ^ (0 : Nat))) 15 = ((b.val % 16 : Nat) : Int) := by decide +kernel
  have kb := key ⟨b, hb⟩
  unfold nibB
  rcases Int.emod_two_eq k with h | h
  · rw [if_pos (by omega), h]; exact kb.1
  · rw [if_neg (by omega), h]; exact kb.2
theorem nib_key : ∀ b : Fin 256, wrap64 ((wrap64 (b.val : Int)).tdiv 16) = ((b.val / 16 : Nat) : Int) ∧ (wrap64 (b.val : Int)).tmod 16 = ((b.val % 16 : Nat) : Int) := by decide +kernel
theorem nib_q (b : Nat) (hb : b < 256) (k : Int) (h0 : 0 ≤ k) (h : (k % 2 == 0) = true) :
    wrap64 ((wrap64 (b : Int)).tdiv 16) = ((if k.toNat % 2 = 0 then b / 16 else b % 16 : Nat) : Int) := by
  have e : k.toNat % 2 = 0 := by simp at h; omega
  rw [if_pos e]; exact (nib_key ⟨b, hb⟩).1
theorem nib_r (b : Nat) (hb : b < 256) (k : Int) (h0 : 0 ≤ k) (h : (k % 2 == 0) = false) :
    (wrap64 (b : Int)).tmod 16 = ((if k.toNat % 2 = 0 then b / 16 else b % 16 : Nat) : Int) := by
  have e : ¬ k.toNat % 2 = 0 := by simp at h; omega
  rw [if_neg e]; exact (nib_key ⟨b, hb⟩).2
theorem byteAt_get (s : ByteArray) (i : Nat) (h : i < s.size) : byteAt s i = s[i].toNat := by
  unfold byteAt
  rw [List.getD_eq_getElem?_getD, List.getElem?_eq_getElem (by simpa using h)]
  rfl

end Go.Proofs.YtlenfiiocmchdaaGreatDoor
/- A region that draws its order, whose first operations read or call what leaves the world in a class, and whose last ones stand in one order: one walk in the text's order. No program. -/
namespace Go.Proofs.YtlenfiiocmchdaaGreatDoor
open Go.RowKit
set_option linter.unusedVariables false

section
variable {P : Program} {md : Region.Mode} {ops : Array Oper} {C : World → Prop}
def anyHead (P : Program) (md : Region.Mode) (ops : Array Oper) (C : World → Prop) (n : Nat) (L : Array Bool → Act → Prop) : Nat → Array Bool → Act → Prop
  | 0, listed, a => L listed a
  | f + 1, listed, a =>
    Region.ready md ops listed ≠ [] ∧ ∀ i ∈ Region.ready md ops listed, i < n ∧ qOp P ops C i (anyHead P md ops C n L f (listed.setIfInBounds i true)) a
theorem any_of_head {n g : Nat} {L : Array Bool → Act → Prop} {Q' : Exit → Act → World → Prop} (hL : ∀ listed a w, C w → L listed a → wpAny P md ops Q' g listed a w) :
    ∀ (f : Nat) (listed : Array Bool) (a : Act) (w : World), C w → anyHead P md ops C n L f listed a → wpAny P md ops Q' (f + g) listed a w
  | 0, listed, a, w, hw, h => by rw [Nat.zero_add]; exact hL _ _ _ hw h
  | f + 1, listed, a, w, hw, h => by
    rw [show f + 1 + g = (f + g) + 1 by omega]
    exact ⟨fun h0 => absurd h0 h.1, fun i hi => wpOp_of_qOp hw (fun a' w' hw' h' => any_of_head hL f _ a' w' hw' h') (h.2 i hi).2⟩
theorem anyHead_first {n i : Nat} {oi : Oper} {v : Value} {L : Array Bool → Act → Prop} (hi : ops[i]? = some oi) (hsel : ∀ (j : Nat) (o : Oper) cs b, ops[j]? = some o → o.op ≠ .select cs b)
    (hs : Region.sinkB md ops n = true) (hc : Region.chainB md ops n = true) (hn : n < ops.size) (hin : i < n)
    (hdone : ∀ listed a, L listed a → ∀ j ∈ Region.ready md ops listed, n ≤ j) :
    ∀ (f : Nat) (listed : Array Bool) (a : Act), HeadInv md ops n listed →
      (∀ j oj, ops[j]? = some oj → j ≠ i → listed.getD j true = false → (∀ e ∈ oj.after, Region.binds md e = true → e.on ≠ i) → oi.apart ops oj = true) →
      i ∈ Region.ready md ops listed → YieldsIn P ops C oi v a →
      anyHead P md ops C n L f (listed.setIfInBounds i true) (a.put oi.dst v) → anyHead P md ops C n L (f + 1) listed a := by
  intro f
  induction f with
  | zero =>
    intro listed a inv _ hr hy H
    have hun := (mem_ready.1 hr).1
    refine ⟨fun h => (by rw [h] at hr; cases hr), fun j hj => ?_⟩
    have hjn : j < n := by
      rcases Nat.lt_or_ge j n with h | h
      · exact h
      · exact absurd hj (tail_waits hs hc hn inv _ i rfl hin hun j h)
    refine ⟨hjn, ?_⟩
    by_cases hji : j = i
    · subst hji; exact hy.qOp hi H
    · have := hdone _ _ H j (ready_mono hj hji)
      omega
  | succ f ih =>
    intro listed a inv hfree hr hy H
    have hun := (mem_ready.1 hr).1
    refine ⟨fun h => (by rw [h] at hr; cases hr), fun j hj => ?_⟩
    have hjn : j < n := by
      rcases Nat.lt_or_ge j n with h | h
      · exact h
      · exact absurd hj (tail_waits hs hc hn inv _ i rfl hin hun j h)
    refine ⟨hjn, ?_⟩
    by_cases hji : j = i
    · subst hji; exact hy.qOp hi H
    · have h1 := (H.2 j (ready_mono hj hji)).2
      obtain ⟨hjun, oj, hoj, hall⟩ := mem_ready.1 hj
      have hnot : ∀ e ∈ oj.after, Region.binds md e = true → e.on ≠ i := fun e he hb heq => by
        have h1 := hall e he hb
        have h0 := hun
        rw [heq] at h1
        rcases Nat.lt_or_ge i listed.size with h' | h'
        · simp [h'] at h0 h1; rw [h0] at h1; cases h1
        · simp [Array.getElem?_eq_none h'] at h1
      have h2 := qOp_put hoj (hfree j oj hoj hji hjun hnot) (fun cs b => hsel i oi cs b hi) (fun cs b => hsel j oj cs b hoj) hy h1
      have hfree' : ∀ k ok, ops[k]? = some ok → k ≠ i → (listed.setIfInBounds j true).getD k true = false →
          (∀ e ∈ ok.after, Region.binds md e = true → e.on ≠ i) → oi.apart ops ok = true := fun k ok hk hki hun hno => by
        refine hfree k ok hk hki ?_ hno
        by_cases hjk : j = k
        · subst hjk; exact hjun
        · rw [getD_set_ne true hjk] at hun; exact hun
      refine qOp_mono (fun a' h3 => ih (listed.setIfInBounds j true) a' (inv.set hj hjn) hfree' (ready_mono hr (Ne.symm hji)) h3.1 ?_) h2
      rw [Array.setIfInBounds_comm _ _ hji]
      exact h3.2
theorem anyHead_lex {n g : Nat} {Lq : Act → Prop} (hsel : Region.noSelect ops = true) (hs : Region.sinkB md ops n = true) (hc : Region.chainB md ops n = true) (hn : n < ops.size) :
    ∀ (l : List Oper) (k : Nat) (listed : Array Bool) (a : Act), (∀ j, j < l.length → l[j]? = ops[k + j]?) → k + l.length = n → HeadInv md ops n listed →
    Region.lexHead md ops g l.length k listed = true → wpQuiet P ops C Lq l a →
    anyHead P md ops C n (fun listed' a' => Region.seqB md ops g n listed' = true ∧ Lq a') l.length listed a
  | [], k, listed, a, _, hk, _, hB, h => by
    have : k = n := by simpa using hk
    subst this
    exact ⟨by simpa [Region.lexHead] using hB, h⟩
  | o :: l, k, listed, a, hl, hk, inv, hB, h => by
    have h0 : ops[k]? = some o := by simpa using (hl 0 (by simp)).symm
    simp only [List.length_cons, Region.lexHead, Bool.and_eq_true] at hB
    obtain ⟨⟨hr, hf⟩, hB'⟩ := hB
    have hkn : k < n := by simp only [List.length_cons] at hk; omega
    have hr' : k ∈ Region.ready md ops listed := by simpa using hr
    have hst : qOp P ops C k (wpQuiet P ops C Lq l) a := by unfold qOp; simp only [h0]; exact h
    obtain ⟨v, hy, hK⟩ := yieldsIn_of_qOp h0 hst
    exact anyHead_first h0 (Region.noSelect_spec hsel) hs hc hn hkn (fun listed' a' hL => seqB_ready hL.1) l.length listed a inv (Region.free_spec h0 hf) hr' hy
      (anyHead_lex hsel hs hc hn l (k + 1) _ _ (fun j hj => by have := hl (j + 1) (by simp; omega); simpa [Nat.add_assoc, Nat.add_comm 1 j] using this) (by simp only [List.length_cons] at hk; omega) (inv.set hr' hkn) hB' hK)
/-- quiet in a class, then a tail in one order -/
theorem wp_region_tail {id : Nat} {Q : Exit → Act → World → Prop} {a : Act} {w : World} {l : List Oper} (n : Nat) (hm : P.follows .mixedOrders = true) (hB : Region.lexTailB .any l.toArray n = true) (hC : C { w with drawn := w.drawn + 1 })
    (h : wpQuiet P l.toArray C (fun a' => ∀ w', C w' → wpList P l.toArray Q (l.drop n) a' w') (l.take n) a) : (Code.region id l.toArray true).wp P Q a w := by
  simp only [Region.lexTailB, Bool.and_eq_true, decide_eq_true_eq] at hB
  obtain ⟨⟨⟨⟨hsel, hn⟩, hs⟩, hc⟩, hlex⟩ := hB
  have hn' : n < l.length := by simpa using hn
  have htl : (l.take n).length = n := by simp; omega
  have hdl : (l.drop n).length = l.toArray.size - n := by simp
  have inv0 : HeadInv .any l.toArray n (Array.replicate l.toArray.size false) :=
    ⟨by simp, fun j oj _ hl => (by rw [getD_replicate_false] at hl; cases hl), fun t _ ht => getD_in (by simpa using ht) (getD_replicate_false _ _)⟩
  have H := anyHead_lex (md := .any) (g := l.toArray.size - n) hsel hs hc hn (l.take n) 0 _ a (fun j hj => by
    have hj' : j < n := by rw [htl] at hj; exact hj
    simp [hj']) (by simpa using htl) inv0 (by rw [htl]; exact hlex) h
  refine wp_region_any hm ?_
  have := any_of_head (C := C) (Q' := Q) (g := l.toArray.size - n) (fun listed a' w' hw' hL => by
    have := wpAny_of_seq (md := .any) (Q' := Q) (l.drop n) n listed a' w' (fun j => by simp [List.getElem?_drop]) (by rw [hdl]; exact hL.1) (hL.2 w' hw')
    rwa [hdl] at this) _ _ _ _ hC H
  rw [htl, show n + (l.toArray.size - n) = l.toArray.size by omega] at this
  exact this
theorem wp_region_tail_drew {id : Nat} {Q : Exit → Act → World → Prop} {a : Act} {w : World} {l : List Oper} (n : Nat) (hm : P.follows .mixedOrders = true) (hB : Region.lexTailB .any l.toArray n = true)
    (h : wpQuiet P l.toArray (fun w' => ∃ n, w' = w.drewN n) (fun a' => ∀ w', (∃ n, w' = w.drewN n) → wpList P l.toArray Q (l.drop n) a' w') (l.take n) a) : (Code.region id l.toArray true).wp P Q a w :=
  wp_region_tail n hm hB ⟨1, rfl⟩ h
theorem wp_region_tail_after {id : Nat} {Q : Exit → Act → World → Prop} {a : Act} {w : World} {l : List Oper} (n : Nat) (hm : P.follows .mixedOrders = true) (hB : Region.lexTailB .any l.toArray n = true)
    (h : wpQuiet P l.toArray (fun w' => ∃ x : After w, w' = x.val) (fun a' => ∀ w', (∃ x : After w, w' = x.val) → wpList P l.toArray Q (l.drop n) a' w') (l.take n) a) : (Code.region id l.toArray true).wp P Q a w :=
  wp_region_tail n hm hB ⟨⟨_, (Below.refl _ _).drew⟩, rfl⟩ h
/-- a whole array is read -/
theorem quiet_load_row {a : Act} {o : Oper} {rest : List Oper} {Q : Act → Prop} (hg : o.guard = none) (ty : TypeId) (x : Operand) (ho : o.op = .load ty x) (g : Nat) (hx : a.eval x = .pointer (some ⟨g, 0, none⟩)) (t : TypeId) (cs : Array Value) (fr : Nat × Nat) (d : TypeDesc)
    (hC : ∀ w, C w → w.heap[g]? = some (.cells cs t fr)) (hu : P.underlying ty = some d) (hd : (match d with | .struct _ | .array _ _ => true | _ => false) = true) (hi : (P.info? ty).map (·.size) = some cs.size)
    (h : wpQuiet P ops C Q rest (a.put o.dst (.agg cs))) : wpQuiet P ops C Q (o :: rest) a := by
  refine wpQuiet_step (fun K hK => ?_)
  have hw : Region.wanted o (yielded ops a.tmps) = true := by simp [Region.wanted, hg]
  rw [if_pos hw]
  refine ⟨.agg cs, fun w hw' => ?_, hK _ h⟩
  unfold Oper.quietAt execOp
  simp only [ho, hx, Instr.loadAt, Instr.sureAddr, Sem.run_bind, Sem.run_pure, Result.andThen_ok, run_loadVar_row w g t ty cs fr d (hC w hw') hu hd hi]
  exact ⟨rfl, rfl⟩
end
end Go.Proofs.YtlenfiiocmchdaaGreatDoor
/- Words on memory: what a call leaves alone; a block that is known whole; a row of cells that is written. No program. -/
namespace Go.Proofs.YtlenfiiocmchdaaGreatDoor
open Go.RowKit
set_option linter.unusedVariables false

/-- w' is w, but for what lies in F, and what is new -/
structure Only (F : Nat → Prop) (w w' : World) : Prop where
  os : w'.os = w.os
  tape : w'.tape = w.tape
  output : w'.output = w.output
  size : w.heap.size ≤ w'.heap.size
  block : ∀ k, k < w.heap.size → ¬ F k → w'.heap[k]? = w.heap[k]?
def NoF : Nat → Prop := fun _ => False
section
variable {F G : Nat → Prop} {a b c w w' : World}
theorem Only.refl (F : Nat → Prop) (w : World) : Only F w w := ⟨rfl, rfl, rfl, Nat.le_refl _, fun _ _ _ => rfl⟩
theorem Only.trans (h : Only F a b) (k : Only G b c) (hG : ∀ i, G i → F i ∨ a.heap.size ≤ i) : Only F a c :=
  ⟨k.os.trans h.os, k.tape.trans h.tape, k.output.trans h.output, Nat.le_trans h.size k.size, fun i hi hf =>
    (k.block i (Nat.lt_of_lt_of_le hi h.size) (fun e => (hG i e).elim hf (fun e => by omega))).trans (h.block i hi hf)⟩
theorem Only.then (h : Only F a b) (k : Only F b c) : Only F a c := h.trans k (fun _ => .inl)
theorem Only.mono (h : Only F a b) (hFG : ∀ i, F i → G i) : Only G a b := ⟨h.os, h.tape, h.output, h.size, fun i hi hg => h.block i hi (fun e => hg (hFG i e))⟩
theorem Only.of_below (h : Below a.heap.size a b) (F : Nat → Prop) : Only F a b := ⟨h.os, h.tape, h.output, h.size, fun i hi _ => h.block i hi⟩
theorem Only.below {B : Nat} (h : Only F a b) (hF : ∀ i, F i → B ≤ i) (hB : B ≤ a.heap.size) : Below B a b :=
  ⟨h.os, h.tape, h.output, h.size, fun i hi => h.block i (by omega) (fun e => by have := hF i e; omega)⟩
theorem Only.below0 (h : Only NoF a b) : Below a.heap.size a b := h.below (fun _ e => e.elim) (Nat.le_refl _)
theorem Only.alloc (h : Only F a w) (o : Obj) : Only F a (w.alloc o) :=
  h.trans (G := NoF) ⟨rfl, rfl, rfl, by simp, fun k hk _ => Below.heap_alloc _ _ _ hk⟩ (fun _ e => e.elim)
theorem Only.setCell (h : Only F a w) {p : Addr} (hp : F p.block ∨ a.heap.size ≤ p.block) (u : Value) : Only F a (w.setCell p u) :=
  h.trans (G := (· = p.block)) ⟨rfl, rfl, rfl, by simp [World.setCell], fun k hk hn => Below.heap_setCell _ _ _ _ hn⟩ (fun i e => by subst e; exact hp)
theorem Only.drew (h : Only F a w) : Only F a w.drew := ⟨h.os, h.tape, h.output, h.size, h.block⟩
theorem Only.drewN (h : Only F a w) (q : Nat) : Only F a (w.drewN q) := ⟨h.os, h.tape, h.output, h.size, h.block⟩
theorem Only.grown {row : Option Nat} (h : Only F a w) (hg : w.grownBy w' row) (hr : ∀ k, row = some k → F k ∨ a.heap.size ≤ k) : Only F a w' :=
  h.trans (G := fun k => some k = row) ⟨hg.os, hg.tape, hg.output, hg.size, fun k hk hn => hg.block k hk hn⟩ (fun i e => hr i e.symm)
theorem Only.cell (h : Only F w w') {p : Addr} {v : Value} (hc : w.cell? p = some v) (hf : ¬ F p.block) : w'.cell? p = some v :=
  (World.cell?_of_block (h.block p.block (World.block_lt_of_cell? w p hc) hf)).trans hc
theorem grownBy_of_only {row : Option Nat} (h : Only (fun k => row = some k) a b) : a.grownBy b row := ⟨h.os, h.tape, h.output, h.size, fun k hk hn => h.block k hk (fun e => hn e.symm)⟩
end

/-- block g is just these cells -/
def Blk (w : World) (g : Nat) (t : TypeId) (cs : Array Value) : Prop := w.heap[g]? = some (.cells cs t (0, 0))
section
variable {F : Nat → Prop} {w w' : World} {g : Nat} {t : TypeId} {cs : Array Value}
theorem Blk.lt (h : Blk w g t cs) : g < w.heap.size := by
  rcases Nat.lt_or_ge g w.heap.size with hlt | hge
  · exact hlt
  · unfold Blk at h; rw [Array.getElem?_eq_none hge] at h; cases h
theorem Blk.cell (h : Blk w g t cs) (i : Nat) : w.cell? ⟨g, i, none⟩ = cs[i]? := cell_of_row w g i cs t (0, 0) h
theorem Blk.frozen (h : Blk w g t cs) (i : Nat) : w.frozen? ⟨g, i, none⟩ = false := by
  unfold Blk at h
  simp [World.frozen?, h]
theorem Blk.new (w : World) (t : TypeId) (cs : Array Value) : Blk (w.alloc (.cells cs t)) w.heap.size t cs := heap_alloc_new w _
theorem Blk.drew (h : Blk w g t cs) : Blk w.drew g t cs := h
theorem Blk.drewN (h : Blk w g t cs) (n : Nat) : Blk (w.drewN n) g t cs := h
theorem Blk.alloc (h : Blk w g t cs) (o : Obj) : Blk (w.alloc o) g t cs := (Below.heap_alloc w o g h.lt).trans h
theorem Blk.set (h : Blk w g t cs) (i : Nat) (u : Value) : Blk (w.setCell ⟨g, i, none⟩ u) g t (cs.setIfInBounds i u) := by
  unfold Blk at h ⊢
  simp [World.setCell, Array.getElem?_modify, h]
theorem Blk.far (h : Blk w g t cs) {p : Addr} (hp : g ≠ p.block) (u : Value) : Blk (w.setCell p u) g t cs := (Below.heap_setCell w p u g hp).trans h
theorem Blk.only (h : Blk w g t cs) (ho : Only F w w') (hg : ¬ F g) : Blk w' g t cs := (ho.block g h.lt hg).trans h
theorem Blk.grown {row : Option Nat} (h : Blk w g t cs) (hb : w.grownBy w' row) (hg : some g ≠ row) : Blk w' g t cs := (hb.block g h.lt hg).trans h
theorem Blk.ne {g' : Nat} {t' : TypeId} {cs' : Array Value} (h : Blk w g t cs) (h' : Blk w g' t' cs') (hne : t ≠ t') : g ≠ g' := by
  rintro rfl
  unfold Blk at h h'
  rw [h] at h'
  injection h' with h'
  injection h' with _ ht
  exact hne ht
theorem Blk.same {g' : Nat} {cs' : Array Value} (h : Blk w g t cs) (h' : Blk w g t cs') : cs = cs' := by
  unfold Blk at h h'
  rw [h] at h'
  injection h' with h'
  injection h' with h'
theorem own_blk_ne {base : Nat} {e : TypeId} {size n : Nat} {v : Value} {xs : List Value} (h : w.ownsRow base e size v n xs) (hg : Blk w g t cs) (hne : e ≠ t) : v.ownBlock ≠ some g := by
  rcases h.2 with ⟨rfl, _⟩ | ⟨g', cap, cur, rfl, _, hh, _⟩
  · simp [Value.ownBlock]
  · intro he
    have : g' = g := by simpa [Value.ownBlock] using he
    subst this
    exact Blk.ne (t := e) hh hg hne rfl
theorem own_only {base : Nat} {e : TypeId} {size n : Nat} {v : Value} {xs : List Value} (h : w.ownsRow base e size v n xs) (ho : Only F w w') (hf : ∀ k, v.ownBlock = some k → ¬ F k) : w'.ownsRow base e size v n xs := by
  refine ⟨h.1, h.2.imp id ?_⟩
  rintro ⟨g', cap, cur, rfl, hb, hg, r⟩
  exact ⟨g', cap, cur, rfl, hb, (ho.block g' (Array.getElem?_eq_some_iff.1 hg).1 (hf g' rfl)).trans hg, r⟩
theorem own_lt {base : Nat} {e : TypeId} {size n : Nat} {v : Value} {xs : List Value} (h : w.ownsRow base e size v n xs) {k : Nat} (hk : v.ownBlock = some k) : k < w.heap.size := (h.lt k hk).2
theorem own_ne {base : Nat} {e e' : TypeId} {size size' n n' : Nat} {v v' : Value} {xs xs' : List Value} (h : w.ownsRow base e size v n xs) (h' : w.ownsRow base e' size' v' n' xs') (hne : e ≠ e') {k : Nat} (hk : v.ownBlock = some k) : v'.ownBlock ≠ some k := by
  rcases h.2 with ⟨rfl, _⟩ | ⟨g', cap, cur, rfl, _, hh, _⟩
  · simp [Value.ownBlock] at hk
  · have : g' = k := by simpa [Value.ownBlock] using hk
    subst this
    exact own_blk_ne h' (cs := cur) (t := e) hh (fun e => hne e.symm)
/-- a beginning of a row is one -/
theorem own_take {base : Nat} {e : TypeId} {n c k : Nat} {a : Option Addr} {xs : List Value} (h : w.ownsRow base e 1 (.slice a n c) n xs) (hk : k ≤ n) : w.ownsRow base e 1 (.slice a k c) k (xs.take k) := by
  obtain ⟨h1, h2⟩ := h
  refine ⟨by rw [List.length_take, h1]; omega, ?_⟩
  rcases h2 with ⟨h2, rfl⟩ | ⟨g', cap, cur, h2, hb, hg, hn, hc, hs, ht⟩
  · injection h2 with h3 h4 h5
    subst h3 h5
    obtain rfl : k = 0 := by omega
    exact .inl ⟨rfl, rfl⟩
  · injection h2 with h3 h4 h5
    subst h3 h5
    refine .inr ⟨g', c, cur, rfl, hb, hg, by omega, hc, hs, ?_⟩
    rw [← ht, List.take_take, Nat.mul_one, Nat.mul_one, Nat.min_eq_left (by omega)]
end

/-! cells that are written one by one -/
def wr (cur : Array Value) : Nat → List Value → Array Value
  | _, [] => cur
  | o, v :: r => wr (cur.setIfInBounds o v) (o + 1) r
theorem wr_size : ∀ (vs : List Value) (cur : Array Value) (o : Nat), (wr cur o vs).size = cur.size
  | [], _, _ => rfl
  | v :: r, cur, o => by rw [wr, wr_size r]; simp
theorem wr_toList : ∀ (vs : List Value) (cur : Array Value) (o : Nat), o + vs.length ≤ cur.size → (wr cur o vs).toList = cur.toList.take o ++ vs ++ cur.toList.drop (o + vs.length)
  | [], cur, o, _ => by simp [wr]
  | v :: r, cur, o, h => by
    simp only [List.length_cons] at h
    rw [wr, wr_toList r _ (o + 1) (by simp; omega)]
    simp only [Array.toList_setIfInBounds, List.length_cons]
    have hl : o < cur.toList.length := by simp; omega
    rw [List.take_set, List.drop_set_of_lt (by omega), show o + 1 + r.length = o + (r.length + 1) by omega]
    congr 1
    rw [show v :: r = [v] ++ r from rfl, ← List.append_assoc]
    congr 1
    rw [List.take_succ_eq_append_getElem hl, List.set_append_right _ _ (by simp; omega)]
    simp
    rw [Nat.min_eq_left (by omega)]; simp
theorem heap_setCells {g : Nat} {e : TypeId} {fz : Nat × Nat} : ∀ (vs : List Value) (o : Nat) (w : World) (cur : Array Value), w.heap[g]? = some (.cells cur e fz) → (w.setCells g o vs).heap[g]? = some (.cells (wr cur o vs) e fz)
  | [], _, _, _, h => h
  | v :: r, o, w, cur, h => by
    rw [World.setCells, wr]
    refine heap_setCells r (o + 1) _ _ ?_
    simp [World.setCell, Array.getElem?_modify, h]
theorem only_setCells {F : Nat → Prop} {a : World} {g : Nat} (hg : F g ∨ a.heap.size ≤ g) : ∀ (vs : List Value) (o : Nat) (w : World), Only F a w → Only F a (w.setCells g o vs)
  | [], _, _, h => h
  | v :: r, o, w, h => by rw [World.setCells]; exact only_setCells hg r (o + 1) _ (h.setCell hg v)
end Go.Proofs.YtlenfiiocmchdaaGreatDoor
/- Objects: what can be, walked: isRising, goodTree, goodCommit, Good. -/
namespace Go.Proofs.YtlenfiiocmchdaaGreatDoor
open Go.RowKit Book Pap Ojt
set_option linter.unusedVariables false

theorem risingB_iff : ∀ (l : List ByteArray), risingB l = true ↔ ∀ j, j + 1 < l.length → lt' (l.getD j ByteArray.empty) (l.getD (j + 1) ByteArray.empty) = true
  | [] => ⟨fun _ j h => by simp at h, fun _ => rfl⟩
  | [a] => ⟨fun _ j h => by simp at h, fun _ => rfl⟩
  | a :: b :: r => by
    show (lt' a b && risingB (b :: r)) = true ↔ _
    rw [Bool.and_eq_true, risingB_iff (b :: r)]
    constructor
    · rintro ⟨h1, h2⟩ j hj
      cases j with
      | zero => exact h1
      | succ j => exact h2 j (by simp only [List.length_cons] at hj ⊢; omega)
    · intro h
      exact ⟨h 0 (by simp), fun j hj => h (j + 1) (by simp only [List.length_cons] at hj ⊢; omega)⟩
theorem risingB_no {l : List ByteArray} {j : Nat} (h : j + 1 < l.length) (hn : lt' (l.getD j ByteArray.empty) (l.getD (j + 1) ByteArray.empty) = false) : risingB l = false := by
  cases hr : risingB l
  · rfl
  · have := (risingB_iff l).1 hr j h
    rw [hn] at this; cases this
theorem drewN2 (w : World) (q n : Nat) : ∃ m, (w.drewN q).drewN n = w.drewN m := ⟨_, World.drewN_drewN w q n⟩
set_option maxRecDepth 100000 in
set_option maxHeartbeats 1000000 in
theorem rising_any (a : Option Addr) (n c : Nat) (l : List ByteArray) (w : World) (h : StrsAt w a n l) : Calls Tryz.prog 233 #[.slice a n c] w fun e w' => e = .returned (.bool (risingB l)) ∧ ∃ q, w' = w.drewN q := by
  obtain ⟨h1, h2, h3⟩ := h
  have HL := hid h1
  obtain ⟨R, hR⟩ : ∃ R, risingB l = R := ⟨_, rfl⟩
  have HR := hid hR
  rw [hR]
  clear hR
  go_enter Tryz.func233, Tryz.ntmps233
  go_wp2_with fail
  go_loopw [3] (fun iv wr => ∃ i : Nat, 1 ≤ i ∧ (i ≤ n ∨ i = 1) ∧ iv = .int .i64 i ∧ Hid (∀ j, j + 1 < i → lt' (l.getD j ByteArray.empty) (l.getD (j + 1) ByteArray.empty) = true) ∧ ∃ q, wr = w.drewN q) (fun iv _ => n - (intOf iv).toNat)
  case atStart => exact ⟨1, Nat.le_refl _, .inr rfl, rfl, fun j hj => by omega, 0, rfl⟩
  case round =>
    obtain ⟨i, hi1, hin, rfl, HP, q, rfl⟩ := hrel
    by_cases hlt : i < n
    · obtain ⟨b, off, rfl, hc⟩ := h3.resolve_left (by omega)
      have ci : (i : Int) < n := by omega
      have ci0 : (0 : Int) ≤ (i : Int) := by omega
      have cm0 : (0 : Int) ≤ (i : Int) - 1 := by omega
      have cm1 : (1 : Int) ≤ (i : Int) := by omega
      have cm2 : (i : Int) - 1 < n := by omega
      have ew : IntKind.i64.wrap ((i : Int) - 1) = (i : Int) - 1 := by rw [IntKind.wrap_i64]; omega
      have et : ((i : Int) - 1).toNat = i - 1 := by omega
      have q1 : w.cell? ⟨b, off + (i - 1), none⟩ = _ := hc (i - 1) (by omega)
      have q2 : w.cell? ⟨b, off + i, none⟩ = _ := hc i hlt
      have HS : Hid (∀ j, j + 1 < i + 1 → j + 1 < i ∨ j = i - 1) := fun j hj => by omega
      have e1 : i - 1 + 1 = i := by omega
      have HX : Hid (lt' (l.getD (i - 1) ByteArray.empty) (l.getD (i - 1 + 1) ByteArray.empty) = Op.bytesLess (l.getD (i - 1) ByteArray.empty).toList (l.getD i ByteArray.empty).toList) := by rw [e1]; rfl
      have HN : Hid (i - 1 + 1 < l.length) := by rw [e1, HL.out]; exact hlt
      clear e1 h1 hc
      obtain ⟨x, hx⟩ : ∃ x, l.getD (i - 1) ByteArray.empty = x := ⟨_, rfl⟩
      obtain ⟨y, hy⟩ : ∃ x, l.getD i ByteArray.empty = x := ⟨_, rfl⟩
      rw [hx, hy] at HX
      rw [hx] at q1
      rw [hy] at q2
      have HXX := hid hx
      clear hx hy
      cases hb : Op.bytesLess x.toList y.toList
      · have HNO : Hid (risingB l = false) := risingB_no HN.out (by rw [HXX.out, HX.out]; exact hb)
        go_wp2_with fail
        go_quiet (fail)
        go_wp2_with fail
        go_ret
        exact ⟨ret_bool (by rw [← HR.out, HNO.out]), drewN2 _ _ _⟩
      · have HYES : Hid (∀ j, j + 1 < i + 1 → lt' (l.getD j ByteArray.empty) (l.getD (j + 1) ByteArray.empty) = true) := fun j hj => (HS.out j hj).elim (HP.out j) (fun e => by rw [e, HXX.out, HX.out]; exact hb)
        go_wp2_with fail
        go_quiet (fail)
        go_wp2_with fail
        go_roundw
        case rel =>
          exact ⟨i + 1, by omega, by omega, by go_num, HYES, ⟨_, rfl⟩⟩
        case measure => simp [intOf]; omega
    · have hr : Hid (risingB l = true) := (risingB_iff l).2 fun j hj => HP.out j (by have := HL.out; omega)
      have ci : ¬ (i : Int) < n := by omega
      clear h1 h3
      go_wp2_with fail
      go_ret
      exact ⟨ret_bool (by rw [← HR.out, hr.out]), _, rfl⟩
theorem oddid_any (s : ByteArray) (w : World) : Calls Tryz.prog 234 #[.string s] w fun e w' => e = .returned (.bool (!decide (s.size = 32))) ∧ w = w' := by
  have HG := hid (good_any s w)
  obtain ⟨t, ht⟩ : ∃ t, decide (s.size = 32) = t := ⟨_, rfl⟩
  rw [ht] at HG ⊢
  clear ht
  go_enter Tryz.func234, Tryz.ntmps234
  go_wp2_with fail
  refine HG.out.mono ?_; rintro e w' ⟨rfl, rfl⟩
  go_wp2_with fail
  go_ret
  exact ⟨rfl, rfl⟩
theorem own_slice' {w : World} {B e s n : Nat} {v : Value} {xs : List Value} (h : w.ownsRow B e s v n xs) : ∃ a c, v = .slice a n c ∧ n ≤ c := by
  rcases h.2 with ⟨rfl, h0⟩ | ⟨g, cap, cur, rfl, hb, hg, hn, r⟩
  · exact ⟨none, 0, by rw [h0], by omega⟩
  · exact ⟨_, _, rfl, hn⟩
/-- a slice of entries in memory: name, kind, id -/
def EntsAt (w : World) (a : Option Addr) (n : Nat) (l : List Ent) : Prop :=
  l.length = n ∧ n ≤ 9223372036854775807 ∧ (n = 0 ∨ ∃ b off, a = some ⟨b, off, none⟩ ∧ ∀ j, j < n → w.cell? ⟨b, off + j * 3, none⟩ = some (.string (l.getD j ⟨ByteArray.empty, 0, ByteArray.empty⟩).name) ∧ w.cell? ⟨b, off + j * 3 + 1, none⟩ = some (.int .i64 (l.getD j ⟨ByteArray.empty, 0, ByteArray.empty⟩).kind) ∧ w.cell? ⟨b, off + j * 3 + 2, none⟩ = some (.string (l.getD j ⟨ByteArray.empty, 0, ByteArray.empty⟩).id))
theorem EntsAt.later {w w' : World} {a : Option Addr} {n : Nat} {l : List Ent} (h : EntsAt w a n l) (hb : Below w.heap.size w w') : EntsAt w' a n l := by
  obtain ⟨h1, h2, h3⟩ := h
  refine ⟨h1, h2, h3.imp id ?_⟩
  rintro ⟨b, off, ha, hc⟩
  refine ⟨b, off, ha, fun j hj => ?_⟩
  obtain ⟨c0, c1, c2⟩ := hc j hj
  exact ⟨(hb.cell (World.block_lt_of_cell? w _ c0)).trans c0, (hb.cell (World.block_lt_of_cell? w _ c1)).trans c1, (hb.cell (World.block_lt_of_cell? w _ c2)).trans c2⟩
theorem EntsAt.drewN {w : World} {a : Option Addr} {n : Nat} {l : List Ent} (h : EntsAt w a n l) (q : Nat) : EntsAt (w.drewN q) a n l := h.later (below_drewN (Below.refl _ _) q)
set_option maxRecDepth 100000 in
set_option maxHeartbeats 4000000 in
theorem goodtree_any (a : Option Addr) (n c : Nat) (l : List Ent) (w : World) (h : EntsAt w a n l) (hn : n ≤ 1000000) : Calls Tryz.prog 190 #[.slice a n c] w fun e w' => e = .returned (.bool (goodTree l)) ∧ Below w.heap.size w w' := by
  obtain ⟨i0, hi0, hz0, hz1, hz2⟩ := info_parts Tryz.infoS
  obtain ⟨h1, h2, h3⟩ := h
  have HL := hid h1
  obtain ⟨R, hR⟩ : ∃ R, goodTree l = R := ⟨_, rfl⟩
  have HR := hid hR
  rw [hR]
  clear hR
  go_enter Tryz.func190, Tryz.ntmps190
  go_wp2_with fail
  go_loopw [8, 3] (fun iv v wr => ∃ i : Nat, i ≤ n ∧ iv = .int .i64 i ∧ Hid (wr.ownsRow w.heap.size 9 1 v i (svals ((l.take i).map (·.name)))) ∧ Hid (∀ e ∈ l.take i, goodEnt e = true) ∧ Hid (Below w.heap.size w wr)) (fun iv _ _ => n - (intOf iv).toNat)
  case atStart => exact ⟨0, Nat.zero_le _, rfl, World.ownsRow_nil _ _ _ _, fun e he => by simp at he, Below.refl _ _⟩
  case round =>
    obtain ⟨i, hi, rfl, HO, HG, HB⟩ := hrel
    obtain ⟨va, vc, rfl, hvc⟩ := own_slice' HO.out
    have hsz := HB.out.size
    by_cases hlt : i < n
    · obtain ⟨b, off, rfl, hc⟩ := h3.resolve_left (by omega)
      have ci : (i : Int) < n := by omega
      have ci0 : (0 : Int) ≤ (i : Int) := by omega
      obtain ⟨k0, k1, k2⟩ := hc i hlt
      have bl : b < w.heap.size := World.block_lt_of_cell? w _ k0
      have q0 := (HB.out.cell (p := ⟨b, off + i * 3, none⟩) bl).trans k0
      have q1 := (HB.out.cell (p := ⟨b, off + i * 3 + 1, none⟩) bl).trans k1
      have q2 := (HB.out.cell (p := ⟨b, off + i * 3 + 2, none⟩) bl).trans k2
      have HT : Hid (l.take (i + 1) = l.take i ++ [l.getD i ⟨ByteArray.empty, 0, ByteArray.empty⟩]) := by
        show _ = _
        have hl : i < l.length := by rw [HL.out]; exact hlt
        rw [List.take_succ_eq_append_getElem hl, List.getD_eq_getElem?_getD, List.getElem?_eq_getElem hl]; rfl
      have HM : Hid (l.getD i ⟨ByteArray.empty, 0, ByteArray.empty⟩ ∈ l) := by
        have hl : i < l.length := by rw [HL.out]; exact hlt
        rw [List.getD_eq_getElem?_getD, List.getElem?_eq_getElem hl]; exact List.getElem_mem hl
      obtain ⟨x, hx⟩ : ∃ x, l.getD i ⟨ByteArray.empty, 0, ByteArray.empty⟩ = x := ⟨_, rfl⟩
      rw [hx] at q0 q1 q2 HT HM
      obtain ⟨nm, kd, id⟩ := x
      simp only at q0 q1 q2
      clear hx k0 k1 k2 hc
      go_upto_region 5 with fail
      have HX1 : Hid (Blk (wr.alloc (.cells #[.string nm, .int .i64 kd, .string id] 40)) wr.heap.size 40 #[.string nm, .int .i64 kd, .string id]) := Blk.new wr _ _
      have HO1 : Hid ((wr.alloc (.cells #[.string nm, .int .i64 kd, .string id] 40)).ownsRow w.heap.size 9 1 (.slice va i vc) i (svals ((l.take i).map (·.name)))) := HO.out.alloc _
      have HB1 : Hid (Below w.heap.size w (wr.alloc (.cells #[.string nm, .int .i64 kd, .string id] 40))) := HB.out.alloc hsz _
      clear q0 q1 q2 HO HB
      have hsz1 : w.heap.size ≤ (wr.alloc (.cells #[.string nm, .int .i64 kd, .string id] 40)).heap.size := by simp; omega
      generalize (wr.alloc (.cells #[.string nm, .int .i64 kd, .string id] 40)) = w1 at HX1 HO1 HB1 hsz1 ⊢
      generalize wr.heap.size = g1 at HX1 ⊢
      have k0 : w1.cell? ⟨g1, 0, none⟩ = some (.string nm) := Blk.cell HX1.out 0
      have k1 : w1.cell? ⟨g1, 1, none⟩ = some (.int .i64 kd) := Blk.cell HX1.out 1
      have k2 : w1.cell? ⟨g1, 2, none⟩ = some (.string id) := Blk.cell HX1.out 2
      have HPG := hid (pgood_any nm w1)
      have HIG := hid (good_any id w1)
      have HGE : Hid (goodEnt ⟨nm, kd, id⟩ = (goodL nm.data.toList && (decide (kd = 1) || decide (kd = 2)) && decide (id.size = 32))) := rfl
      obtain ⟨G, hG⟩ : ∃ G, goodEnt ⟨nm, kd, id⟩ = G := ⟨_, rfl⟩
      have HGG := hid hG
      rw [hG] at HGE
      obtain ⟨p, hp⟩ : ∃ p, goodL nm.data.toList = p := ⟨_, rfl⟩
      obtain ⟨t, ht⟩ : ∃ t, decide (id.size = 32) = t := ⟨_, rfl⟩
      rw [hp] at HPG HGE
      rw [ht] at HIG HGE
      clear hG hp ht
      go_cut [31] (fun s31 wx => s31 = .bool (!G) ∧ wx = w1)
      case first =>
        cases p
        · have hG : G = false := HGE.out
          subst hG
          go_wp2_with (first
            | (go_at_call 161; refine HPG.out.mono ?_; rintro e w' ⟨rfl, rfl⟩))
          go_meet
          case rel => exact ⟨rfl, rfl⟩
        · by_cases h1 : kd = 1
          · subst h1
            have hG : G = t := by rw [HGE.out]; simp
            subst hG
            go_wp2_with (first
              | (go_at_call 161; refine HPG.out.mono ?_; rintro e w' ⟨rfl, rfl⟩)
              | (go_at_call 232; refine HIG.out.mono ?_; rintro e w' ⟨rfl, rfl⟩))
            go_meet
            case rel => exact ⟨rfl, rfl⟩
          · by_cases h2 : kd = 2
            · subst h2
              have hG : G = t := by rw [HGE.out]; simp
              subst hG
              go_wp2_with (first
                | (go_at_call 161; refine HPG.out.mono ?_; rintro e w' ⟨rfl, rfl⟩)
                | (go_at_call 232; refine HIG.out.mono ?_; rintro e w' ⟨rfl, rfl⟩))
              go_meet
              case rel => exact ⟨rfl, rfl⟩
            · have hG : G = false := by rw [HGE.out]; simp [h1, h2]
              subst hG
              have b1 : (kd == 1) = false := by rw [beq_eq_false_iff_ne]; exact h1
              have b2 : (kd == 2) = false := by rw [beq_eq_false_iff_ne]; exact h2
              have b3 : (kd != 1) = true := by rw [bne, b1]; rfl
              have b4 : (kd != 2) = true := by rw [bne, b2]; rfl
              go_wp2_with (first
                | (go_at_call 161; refine HPG.out.mono ?_; rintro e w' ⟨rfl, rfl⟩))
              go_meet
              case rel => exact ⟨rfl, rfl⟩
      case rest =>
        obtain ⟨rfl, rfl⟩ := hcut
        cases G
        · have HRF : Hid (R = false) := by
            show _ = _
            rw [← HR.out]
            unfold goodTree
            have : l.all goodEnt = false := by
              rw [List.all_eq_false]
              exact ⟨_, HM.out, by rw [HGG.out]; simp⟩
            rw [this]; rfl
          go_wp2_with fail
          go_ret
          exact ⟨ret_bool HRF.out.symm, HB1.out⟩
        · have HG2 : Hid (∀ e ∈ l.take (i + 1), goodEnt e = true) := by
            intro e he
            rw [HT.out] at he
            rcases List.mem_append.1 he with he | he
            · exact HG.out e he
            · rw [List.mem_singleton.1 he]; exact HGG.out
          go_wp2_with (first
            | (at_builtin; refine wpList_append_own _ rfl (.tmp 32) (.tmp 35) 56 rfl w.heap.size 9 i0 (.string ⟨#[]⟩) 1 16 Tryz.underlying56 hi0 hz0 hz1 hz2 rfl (by decide) (.slice va i vc) _ _ rfl (HO1.out.alloc _) ⟨wc.heap.size, 0, none⟩ 1 1 [.string nm] rfl rfl (cellNew1 _ _ _) (one_bytes rfl) (by unfold maxLen; omega) (by omega) (by simp; omega) ?_; intro v' w3 hown' hgrow _; have HOWN := hid hown'; have HGR := hid hgrow; clear hown' hgrow))
          obtain ⟨va', vc', rfl, hvc'⟩ := own_slice' HOWN.out
          have HO3 : Hid (w3.ownsRow w.heap.size 9 1 (.slice va' (i + 1) vc') (i + 1) (svals ((l.take (i + 1)).map (·.name)))) := by
            have h := HOWN.out
            rw [HT.out, List.map_append, svals_append]; exact h
          have HB3 : Hid (Below w.heap.size w w3) := below_grown1 HB1.out HO1.out _ hsz1 HGR.out
          go_roundw
          case rel => first | exact ⟨i + 1, by omega, by go_num, HO3, HG2, HB3⟩ | ((repeat apply Exists.intro); exact ⟨⟨i + 1, by omega, by go_num, HO3, HG2, HB3⟩, rfl⟩)
          case measure => simp [intOf]; omega
    · obtain rfl : i = n := by omega
      have HTA : Hid (l.take i = l) := List.take_of_length_le (by rw [HL.out]; exact Nat.le_refl _)
      have HALL : Hid (R = (decide (i ≤ 256) && risingB (l.map (·.name)))) := by
        show _ = _
        rw [← HR.out]
        unfold goodTree
        have : l.all goodEnt = true := by
          rw [List.all_eq_true]
          intro e he
          exact HG.out e (by rw [HTA.out]; exact he)
        rw [this, HL.out]; rfl
      have hlm : (l.map (·.name)).length = i := by rw [List.length_map, HL.out]
      have HS : Hid (StrsAt wr va i (l.map (·.name))) := by
        have h := HO.out
        rw [HTA.out] at h
        have h' : wr.ownsRow w.heap.size 9 1 (.slice va i vc) (l.map (·.name)).length (svals (l.map (·.name))) := by rw [hlm]; exact h
        obtain ⟨a', c', he, hst⟩ := own_strs h' (by omega)
        injection he with e1 e2 e3
        rw [hlm, ← e1] at hst
        exact hst
      have HRS := hid (rising_any va i vc (l.map (·.name)) wr HS.out)
      obtain ⟨t, ht⟩ : ∃ t, risingB (l.map (·.name)) = t := ⟨_, rfl⟩
      rw [ht] at HRS HALL
      clear ht hlm
      by_cases h256 : i ≤ 256
      · have g1 : (i : Int) ≤ 256 := by omega
        have HRT : Hid (R = t) := by rw [HALL.out]; show _ = _; simp [h256]
        go_wp2_with (first
          | (go_at_call 233; refine HRS.out.mono ?_; rintro e w' ⟨rfl, q, rfl⟩))
        go_ret
        exact ⟨ret_bool HRT.out.symm, below_drewN HB.out _⟩
      · have g1 : ¬ (i : Int) ≤ 256 := by omega
        have HRT : Hid (R = false) := by rw [HALL.out]; show _ = _; simp [h256]
        go_wp2_with fail
        go_ret
        exact ⟨ret_bool HRT.out.symm, HB.out⟩
end Go.Proofs.YtlenfiiocmchdaaGreatDoor
/- Objects: what can be, walked: goodCommit, Good. -/
namespace Go.Proofs.YtlenfiiocmchdaaGreatDoor
open Go.RowKit Book Pap Ojt
set_option linter.unusedVariables false

/-- an object's seven cells -/
def obCs (x : Ob) (ev pv : Value) : Array Value := #[.int .i64 x.kind, .string x.data, ev, .string x.tree, pv, .int .i64 x.height, .string x.note]
/-- the lists of an object in memory -/
def ObAt (w : World) (ev pv : Value) (x : Ob) : Prop :=
  ∃ ea en ec pa pn pc, ev = .slice ea en ec ∧ EntsAt w ea en x.ents ∧ pv = .slice pa pn pc ∧ StrsAt w pa pn x.pars
theorem ObAt.later {w w' : World} {ev pv : Value} {x : Ob} (h : ObAt w ev pv x) (hb : Below w.heap.size w w') : ObAt w' ev pv x := by
  obtain ⟨ea, en, ec, pa, pn, pc, h1, h2, h3, h4⟩ := h
  exact ⟨ea, en, ec, pa, pn, pc, h1, h2.later hb, h3, h4.later hb⟩
def heightB (x : Ob) : Bool := decide (0 ≤ x.height) && (decide (x.height ≤ 1073741824) && decide (0 < x.height ↔ x.pars ≠ []))
set_option maxRecDepth 100000 in
set_option maxHeartbeats 4000000 in
theorem goodcommit_any (x : Ob) (ev pv : Value) (w : World) (h : ObAt w ev pv x) (hh : -9223372036854775808 ≤ x.height ∧ x.height ≤ 9223372036854775807) : Calls Tryz.prog 191 #[.agg (obCs x ev pv)] w fun e w' => e = .returned (.bool (goodCommit x)) ∧ Below w.heap.size w w' := by
  obtain ⟨ea, en, ec, pa, pn, pc, rfl, -, rfl, hp⟩ := h
  have hpl := hp.1
  obtain ⟨R, hR⟩ : ∃ R, goodCommit x = R := ⟨_, rfl⟩
  have HR : Hid (R = (goodPars x.pars && heightB x && (decide (x.tree.size = 32) && decide (x.note.size ≤ 1000)))) := by rw [← hR]; rfl
  rw [hR]
  clear hR
  obtain ⟨kd, data, ents, tree, pars, height, note⟩ := x
  unfold obCs
  simp only at hp hpl HR hh ⊢
  have HX1 : Hid (Blk (w.alloc (.cells #[.int .i64 kd, .string data, .slice ea en ec, .string tree, .slice pa pn pc, .int .i64 height, .string note] 103)) w.heap.size 103 #[.int .i64 kd, .string data, .slice ea en ec, .string tree, .slice pa pn pc, .int .i64 height, .string note]) := Blk.new w _ _
  have HB1 : Hid (Below w.heap.size w (w.alloc (.cells #[.int .i64 kd, .string data, .slice ea en ec, .string tree, .slice pa pn pc, .int .i64 height, .string note] 103))) := (Below.refl _ _).alloc (Nat.le_refl _) _
  have HP1 : Hid (StrsAt (w.alloc (.cells #[.int .i64 kd, .string data, .slice ea en ec, .string tree, .slice pa pn pc, .int .i64 height, .string note] 103)) pa pn pars) := hp.later HB1.out
  clear hp
  go_enter Tryz.func191, Tryz.ntmps191
  go_upto_region 1 with fail
  obtain ⟨g, hg⟩ : ∃ g, w.heap.size = g := ⟨_, rfl⟩
  have HG := hid hg
  rw [hg] at HX1 HB1 ⊢
  clear hg
  generalize (w.alloc (.cells #[.int .i64 kd, .string data, .slice ea en ec, .string tree, .slice pa pn pc, .int .i64 height, .string note] 103)) = w1 at HX1 HB1 HP1 ⊢
  have k3 : w1.cell? ⟨g, 3, none⟩ = some (.string tree) := Blk.cell HX1.out 3
  have k4 : w1.cell? ⟨g, 4, none⟩ = some (.slice pa pn pc) := Blk.cell HX1.out 4
  have k5 : w1.cell? ⟨g, 5, none⟩ = some (.int .i64 height) := Blk.cell HX1.out 5
  have k6 : w1.cell? ⟨g, 6, none⟩ = some (.string note) := Blk.cell HX1.out 6
  have HRS := hid (rising_any pa pn pc pars w1 HP1.out)
  have HCF : Hid (∀ W, Below w1.heap.size w1 W → Calls Tryz.prog 162 #[.slice pa pn pc, .func (.func 234) #[] #[]] W fun e w' => e = .returned (.bool (pars.any fun p => !decide (p.size = 32))) ∧ Below W.heap.size W w') := fun W hW =>
    containsFunc_grows 234 #[] (enters_of Tryz.func234 (by kernel_rfl) rfl) (fun p => !decide (p.size = 32)) pa pn pc pars W (HP1.out.later hW) (fun V hV y hy => (oddid_any y V).mono fun e w' h => ⟨h.1, by rw [← h.2]; exact Below.refl _ _⟩)
  have HGP : Hid (goodPars pars = (decide (pn ≤ 8) && (risingB pars && !(pars.any fun p => !decide (p.size = 32))))) := by
    show _ = _
    unfold goodPars
    rw [hpl]
    congr 2
    rw [List.any_eq_not_all_not]
    simp
  obtain ⟨GP, hGP⟩ : ∃ G, goodPars pars = G := ⟨_, rfl⟩
  obtain ⟨rs, hrs⟩ : ∃ r, risingB pars = r := ⟨_, rfl⟩
  obtain ⟨an, han⟩ : ∃ r, (pars.any fun p => !decide (p.size = 32)) = r := ⟨_, rfl⟩
  rw [hGP] at HR HGP
  rw [hrs] at HRS HGP
  rw [han] at HCF HGP
  clear hGP hrs han
  go_upto_region 2 with fail
  go_cut [4] (fun s4 wx => s4 = .bool GP ∧ Hid (Below w1.heap.size w1 wx))
  case first =>
    by_cases h8 : pn ≤ 8
    · have g8 : (pn : Int) ≤ 8 := by omega
      cases rs
      · have hG : GP = false := by rw [HGP.out]; simp
        subst hG
        go_wp2_with (first
          | (go_at_call 233; refine HRS.out.mono ?_; rintro e w' ⟨rfl, q, rfl⟩))
        go_meet
        case rel => exact ⟨rfl, below_drewN (Below.refl _ _) _⟩
      · have hG : GP = !an := by rw [HGP.out]; simp [h8]
        subst hG
        go_wp2_with fail
        refine HRS.out.mono ?_; rintro e w' ⟨rfl, q, rfl⟩
        have k4' : (w1.drewN q).cell? ⟨g, 4, none⟩ = some (.slice pa pn pc) := k4
        go_wp2_with fail
        refine (HCF.out _ (below_drewN (Below.refl _ _) q)).mono ?_; rintro e w' ⟨rfl, hb⟩
        have HB := hid (below_then (below_drewN (Below.refl _ w1) q) hb)
        clear hb
        go_wp2_with fail
        go_meet
        case rel => exact ⟨rfl, HB⟩
    · have g8 : ¬ (pn : Int) ≤ 8 := by omega
      have hG : GP = false := by rw [HGP.out]; simp [h8]
      subst hG
      go_wp2_with fail
      go_meet
      case rel => exact ⟨rfl, Below.refl _ _⟩
  case rest =>
    obtain ⟨rfl, HBc⟩ := hcut
    have hgl : g < w1.heap.size := Blk.lt HX1.out
    have HXc : Hid (Blk wc g 103 #[.int .i64 kd, .string data, .slice ea en ec, .string tree, .slice pa pn pc, .int .i64 height, .string note]) := (HBc.out.block g hgl).trans HX1.out
    have HBW : Hid (Below g w wc) := HB1.out.trans (HBc.out.mono (Nat.le_of_lt hgl))
    clear k3 k4 k5 k6 HX1 HB1 HP1 HBc HRS HCF HGP
    have k3 : wc.cell? ⟨g, 3, none⟩ = some (.string tree) := Blk.cell HXc.out 3
    have k4 : wc.cell? ⟨g, 4, none⟩ = some (.slice pa pn pc) := Blk.cell HXc.out 4
    have k5 : wc.cell? ⟨g, 5, none⟩ = some (.int .i64 height) := Blk.cell HXc.out 5
    have k6 : wc.cell? ⟨g, 6, none⟩ = some (.string note) := Blk.cell HXc.out 6
    have HHB : Hid (heightB ⟨kd, data, ents, tree, pars, height, note⟩ = (decide (0 ≤ height) && (decide (height ≤ 1073741824) && decide (0 < height ↔ 0 < pn)))) := by
      show _ = _
      unfold heightB
      have : (pars ≠ []) ↔ 0 < pn := by rw [← hpl]; exact List.length_pos_iff.symm
      simp only [this]
    obtain ⟨HT, hHT⟩ : ∃ t, heightB ⟨kd, data, ents, tree, pars, height, note⟩ = t := ⟨_, rfl⟩
    rw [hHT] at HR HHB
    clear hHT
    go_upto_region 3 with fail
    go_cut [5] (fun s5 wx => s5 = .bool HT ∧ wx = wc)
    case first =>
      by_cases h0 : 0 ≤ height
      · by_cases h1 : height ≤ 1073741824
        · by_cases h2 : 0 < height
          · by_cases h3 : 0 < pn
            · have hT : HT = true := by rw [HHB.out]; simp [h0, h1, h2, h3]
              subst hT
              have g3 : (0 : Int) < pn := by omega
              go_wp2_with fail
              go_meet
              case rel => exact ⟨rfl, rfl⟩
            · have hT : HT = false := by rw [HHB.out]; simp [h2, h3]
              subst hT
              have g3 : ¬ (0 : Int) < pn := by omega
              go_wp2_with fail
              go_meet
              case rel => exact ⟨rfl, rfl⟩
          · by_cases h3 : 0 < pn
            · have hT : HT = false := by rw [HHB.out]; simp [h2, h3]
              subst hT
              have g3 : (0 : Int) < pn := by omega
              go_wp2_with fail
              go_meet
              case rel => exact ⟨rfl, rfl⟩
            · have hT : HT = true := by rw [HHB.out]; simp [h0, h1, h2, h3]
              subst hT
              have g3 : ¬ (0 : Int) < pn := by omega
              go_wp2_with fail
              go_meet
              case rel => exact ⟨rfl, rfl⟩
        · have hT : HT = false := by rw [HHB.out]; simp [h1]
          subst hT
          go_wp2_with fail
          go_meet
          case rel => exact ⟨rfl, rfl⟩
      · have hT : HT = false := by rw [HHB.out]; simp [h0]
        subst hT
        go_wp2_with fail
        go_meet
        case rel => exact ⟨rfl, rfl⟩
    case rest =>
      obtain ⟨rfl, rfl⟩ := hcut
      have HIG := hid (good_any tree wc)
      obtain ⟨t, ht⟩ : ∃ t, decide (tree.size = 32) = t := ⟨_, rfl⟩
      rw [ht] at HIG HR
      clear ht
      cases GP
      · have hr : R = false := by rw [HR.out]; rfl
        subst hr
        go_wp2_with fail
        go_ret
        exact ⟨rfl, by rw [HG.out]; exact HBW.out⟩
      · cases HT
        · have hr : R = false := by rw [HR.out]; rfl
          subst hr
          go_wp2_with fail
          go_ret
          exact ⟨rfl, by rw [HG.out]; exact HBW.out⟩
        · cases t
          · have hr : R = false := by rw [HR.out]; rfl
            subst hr
            go_wp2_with fail
            refine HIG.out.mono ?_; rintro e w' ⟨rfl, rfl⟩
            go_wp2_with fail
            go_ret
            exact ⟨rfl, by rw [HG.out]; exact HBW.out⟩
          · by_cases hn : note.size ≤ 1000
            · have hr : R = true := by rw [HR.out]; simp [hn]
              subst hr
              have g3 : (note.size : Int) ≤ 1000 := by omega
              go_wp2_with fail
              refine HIG.out.mono ?_; rintro e w' ⟨rfl, rfl⟩
              go_wp2_with fail
              go_ret
              exact ⟨rfl, by rw [HG.out]; exact HBW.out⟩
            · have hr : R = false := by rw [HR.out]; simp [hn]
              subst hr
              have g3 : ¬ (note.size : Int) ≤ 1000 := by omega
              go_wp2_with fail
              refine HIG.out.mono ?_; rintro e w' ⟨rfl, rfl⟩
              go_wp2_with fail
              go_ret
              exact ⟨ret_bool (decide_eq_false (by omega)), by rw [HG.out]; exact HBW.out⟩
/-- an object whose numbers are Go's -/
def ObN (x : Ob) : Prop := (-9223372036854775808 ≤ x.kind ∧ x.kind ≤ 9223372036854775807) ∧ (-9223372036854775808 ≤ x.height ∧ x.height ≤ 9223372036854775807) ∧ x.ents.length ≤ 1000000
set_option maxRecDepth 100000 in
set_option maxHeartbeats 4000000 in
theorem obgood_any (x : Ob) (ev pv : Value) (w : World) (h : ObAt w ev pv x) (hn : ObN x) : Calls Tryz.prog 138 #[.agg (obCs x ev pv)] w fun e w' => e = .returned (.bool (good x)) ∧ Below w.heap.size w w' := by
  obtain ⟨hk, hh, hel⟩ := hn
  have h0 := h
  obtain ⟨ea, en, ec, pa, pn, pc, rfl, he, rfl, hp⟩ := h
  have hB : Below w.heap.size w (w.alloc (.cells (obCs x (.slice ea en ec) (.slice pa pn pc)) 103)) := (Below.refl _ _).alloc (Nat.le_refl _) _
  have HCM := hid (fun W (hW : Below w.heap.size w W) => goodcommit_any x (.slice ea en ec) (.slice pa pn pc) W (h0.later hW) hh)
  have HTR := hid (fun W (hW : Below w.heap.size w W) => goodtree_any ea en ec x.ents W (he.later hW) (by have := he.1; omega))
  have HGD : Hid (good x = if x.kind = 1 then decide (x.data.size ≤ 65536) else if x.kind = 2 then goodTree x.ents else if x.kind = 3 then goodCommit x else false) := rfl
  obtain ⟨R, hR⟩ : ∃ R, good x = R := ⟨_, rfl⟩
  rw [hR] at HGD ⊢
  clear hR h0 he hp
  obtain ⟨kd, data, ents, tree, pars, height, note⟩ := x
  unfold obCs at HCM hB ⊢
  simp only at HCM HTR HGD hk hh hel hB ⊢
  have HX1 : Hid (Blk (w.alloc (.cells #[.int .i64 kd, .string data, .slice ea en ec, .string tree, .slice pa pn pc, .int .i64 height, .string note] 103)) w.heap.size 103 #[.int .i64 kd, .string data, .slice ea en ec, .string tree, .slice pa pn pc, .int .i64 height, .string note]) := Blk.new w _ _
  have HB1 := hid hB
  clear hB
  go_enter Tryz.func138, Tryz.ntmps138
  go_upto_region 1 with fail
  obtain ⟨g, hg⟩ : ∃ g, w.heap.size = g := ⟨_, rfl⟩
  have HG := hid hg
  rw [hg] at HX1 HB1 HCM HTR ⊢
  clear hg
  generalize (w.alloc (.cells #[.int .i64 kd, .string data, .slice ea en ec, .string tree, .slice pa pn pc, .int .i64 height, .string note] 103)) = w1 at HX1 HB1 ⊢
  have k0 : w1.cell? ⟨g, 0, none⟩ = some (.int .i64 kd) := Blk.cell HX1.out 0
  have k1 : w1.cell? ⟨g, 1, none⟩ = some (.string data) := Blk.cell HX1.out 1
  have k2 : w1.cell? ⟨g, 2, none⟩ = some (.slice ea en ec) := Blk.cell HX1.out 2
  have k3 : w1.cell? ⟨g, 3, none⟩ = some (.string tree) := Blk.cell HX1.out 3
  have k4 : w1.cell? ⟨g, 4, none⟩ = some (.slice pa pn pc) := Blk.cell HX1.out 4
  have k5 : w1.cell? ⟨g, 5, none⟩ = some (.int .i64 height) := Blk.cell HX1.out 5
  have k6 : w1.cell? ⟨g, 6, none⟩ = some (.string note) := Blk.cell HX1.out 6
  have HTR1 := hid (HTR.out w1 HB1.out)
  have HCM1 := hid (HCM.out w1 HB1.out)
  have hgs : g ≤ w1.heap.size := by have := HB1.out.size; rw [HG.out] at this; exact this
  clear HTR HCM
  by_cases h1 : kd = 1
  · subst h1
    have hr : R = decide (data.size ≤ 65536) := by rw [HGD.out, if_pos rfl]
    by_cases hd : data.size ≤ 65536
    · have hr2 : R = true := by rw [hr]; simp [hd]
      subst hr2
      have g3 : (data.size : Int) ≤ 65536 := by omega
      clear hr
      go_wp2_with fail
      go_ret
      exact ⟨rfl, by rw [HG.out]; exact HB1.out⟩
    · have hr2 : R = false := by rw [hr]; simp [hd]
      subst hr2
      have g3 : ¬ (data.size : Int) ≤ 65536 := by omega
      clear hr
      go_wp2_with fail
      go_ret
      exact ⟨rfl, by rw [HG.out]; exact HB1.out⟩
  · have b1 : (kd == 1) = false := by rw [beq_eq_false_iff_ne]; exact h1
    by_cases h2 : kd = 2
    · subst h2
      have hr : goodTree ents = R := by rw [HGD.out, if_neg (by decide), if_pos rfl]
      rw [hr] at HTR1
      clear hr
      go_wp2_with fail
      refine HTR1.out.mono ?_; rintro e w' ⟨rfl, hb⟩
      have HB2 : Hid (Below g w w') := HB1.out.trans (hb.mono hgs)
      clear hb
      go_wp2_with fail
      go_ret
      exact ⟨rfl, by rw [HG.out]; exact HB2.out⟩
    · have b2 : (kd == 2) = false := by rw [beq_eq_false_iff_ne]; exact h2
      by_cases h3 : kd = 3
      · subst h3
        have hr : goodCommit ⟨3, data, ents, tree, pars, height, note⟩ = R := by rw [HGD.out, if_neg (by decide), if_neg (by decide), if_pos rfl]
        rw [hr] at HCM1
        clear hr
        go_wp2_with fail
        refine HCM1.out.mono ?_; rintro e w' ⟨rfl, hb⟩
        have HB2 : Hid (Below g w w') := HB1.out.trans (hb.mono hgs)
        clear hb
        go_wp2_with fail
        go_ret
        exact ⟨rfl, by rw [HG.out]; exact HB2.out⟩
      · have b3 : (kd == 3) = false := by rw [beq_eq_false_iff_ne]; exact h3
        have hr : R = false := by rw [HGD.out, if_neg h1, if_neg h2, if_neg h3]
        subst hr
        go_wp2_with fail
        go_ret
        exact ⟨rfl, by rw [HG.out]; exact HB1.out⟩
end Go.Proofs.YtlenfiiocmchdaaGreatDoor
/- A text wound on a row of bytes of the program's own. -/
namespace Go.Proofs.YtlenfiiocmchdaaGreatDoor
open Go.RowKit
set_option linter.unusedVariables false

theorem byteCells_bvals (s : ByteArray) : byteCells s = bvals s.data.toList := rfl
theorem run_append_str (w : World) (v : Value) (l : List UInt8) (s : ByteArray) (hown : w.ownsRow 0 5 1 v l.length (bvals l)) (hb : l.length + s.size ≤ 140737488355328) (ty : TypeId) :
    ∃ v' w', (Builtin.append_ #[91, 9] ty #[v, .string s]).run Tryz.prog w = .ok v' w' ∧ w'.ownsRow 0 5 1 v' (l ++ s.data.toList).length (bvals (l ++ s.data.toList)) ∧ w.grownBy w' v.ownBlock ∧ (v'.ownBlock = v.ownBlock ∨ v'.ownBlock = some w.heap.size) := by
  obtain ⟨i, hi, hz, hz1, hz2⟩ := info_parts Tryz.infoB
  have hu := Tryz.underlying91
  have hsl : s.data.toList.length = s.size := Array.length_toList
  have hll : (l ++ s.data.toList).length = l.length + s.size := by rw [List.length_append, hsl]
  have hsrc : Src Tryz.prog i.size 9 (.string s) s.size (byteCells s) w := by rw [hz1]; exact Src.ofString w Tryz.underlying9 s
  have grow : ∀ (base : Option Addr) (c : Nat), (Builtin.firstCells i.size l.length (.slice base l.length c)).run Tryz.prog w.drew = .ok (bvals l).toArray w.drew → c < l.length + s.size →
      ∃ v' w', (Builtin.append_ #[91, 9] ty #[.slice base l.length c, .string s]).run Tryz.prog w = .ok v' w' ∧ w'.ownsRow 0 5 1 v' (l ++ s.data.toList).length (bvals (l ++ s.data.toList)) ∧ w.grownBy w' (Value.slice base l.length c).ownBlock ∧ v'.ownBlock = some w.heap.size := by
    intro base c hold hg
    have hr := run_append_grow_src w 91 9 ty 5 i _ hu hi hz base l.length c (bvals l) hold (.string s) s.size (byteCells s) hsrc hg (by omega) (by rw [hz2]; exact growslice_fits hg (by omega))
    refine ⟨_, _, hr, ⟨by rw [bvals_length, Nat.mul_one], .inr ⟨w.heap.size, _, _, by rw [hll], Nat.zero_le _, heap_alloc_new w.drew _, ?_, ?_, ?_, ?_⟩⟩, ⟨rfl, rfl, rfl, by simp, fun k hk _ => Below.heap_alloc w.drew _ k hk⟩, rfl⟩
    · rw [hll]; exact grownCap_ge w _ _ _
    · exact grownCap_le_maxLen w _ _ _ (by unfold maxLen; omega)
    · have := grownCap_ge w (l.length + s.size) c 5
      simp [Builtin.zeroCells, Value.cells, byteCells_bvals, bvals_length, hsl]
      omega
    · rw [byteCells_bvals, ← bvals_append, Array.toList_append, Nat.mul_one, List.take_append_of_le_length (by simp [bvals_length])]
      rw [List.take_of_length_le (by simp [bvals_length])]
  rcases hown.2 with ⟨rfl, h0⟩ | ⟨g, cap, cur, rfl, hbg, hg, hnc, hcm, hsz, htk⟩
  · by_cases hs0 : s.size = 0
    · have e1 : s.data.toList = [] := List.length_eq_zero_iff.1 (by omega)
      refine ⟨.slice none 0 0, w, ?_, ?_, ⟨rfl, rfl, rfl, Nat.le_refl _, fun _ _ _ => rfl⟩, .inl rfl⟩
      · simp [Builtin.append_, run_underlying hu, run_underlying Tryz.underlying9, sizeOf, typeInfo, hi, Builtin.lenOf, hs0, Builtin.firstCells]
      · rw [e1, List.append_nil]; exact hown
    · obtain ⟨v', w', h1, h2, h3, h4⟩ := grow none 0 (by
        have : l = [] := List.length_eq_zero_iff.1 h0
        subst this
        exact run_firstCells_none w.drew i.size 0 0 0) (by omega)
      rw [h0] at h1
      exact ⟨v', w', h1, h2, h3, .inr h4⟩
  · rw [Nat.mul_one] at hsz htk
    have hcur : Blk w g 5 cur := hg
    by_cases hr : l.length + s.size ≤ cap
    · have h := run_append_room_src w 91 9 ty 5 i hu hi g 0 l.length cap (.string s) s.size (byteCells s) hsrc hr
        (fun j hj => by rw [hcur.cell, Array.getElem?_eq_getElem (by rw [byteCells_bvals, bvals_length, hsl] at hj; rw [hz1]; omega)]; rfl) (fun j hj => hcur.frozen _)
      rw [hz1, Nat.mul_one, Nat.zero_add] at h
      refine ⟨_, _, h, ⟨by rw [bvals_length, Nat.mul_one], .inr ⟨g, cap, _, by rw [hll], Nat.zero_le _, heap_setCells _ _ _ _ hg, by omega, hcm, by rw [wr_size, Nat.mul_one, hsz], ?_⟩⟩, grownBy_of_only (only_setCells (F := fun k => some g = some k) (.inl rfl) _ _ _ (Only.refl _ w)), .inl rfl⟩
      rw [byteCells_bvals, wr_toList _ _ _ (by rw [bvals_length, hsl]; omega), htk, ← bvals_append, Nat.mul_one, List.take_append_of_le_length (by simp [bvals_length]), List.take_of_length_le (by simp [bvals_length])]
    · obtain ⟨v', w', h1, h2, h3, h4⟩ := grow (some ⟨g, 0, none⟩) cap (by
        rw [hz1]
        exact run_firstCells_some w.drew 1 l.length ⟨g, 0, none⟩ l.length cap (bvals l) (by rw [bvals_length, Nat.mul_one]) (fun j u hj => hown.cells (g := g) rfl j u hj)) (by omega)
      exact ⟨v', w', h1, h2, h3, .inr h4⟩
theorem wpList_append_str {ops : Array Oper} {rest : List Oper} {o : Oper} {a : Act} {w : World} {Q : Exit → Act → World → Prop} (hgd : o.guard = none) (sx x : Operand)
    (ho : o.op = .call { callee := .builtin .append, args := #[sx, x], argTypes := #[91, 9] }) (v : Value) (l : List UInt8) (s : ByteArray) (hs : a.eval sx = v) (hx : a.eval x = .string s)
    (hown : w.ownsRow 0 5 1 v l.length (bvals l)) (hb : l.length + s.size ≤ 140737488355328)
    (h : ∀ v' w', w'.ownsRow 0 5 1 v' (l ++ s.data.toList).length (bvals (l ++ s.data.toList)) → w.grownBy w' v.ownBlock → (v'.ownBlock = v.ownBlock ∨ v'.ownBlock = some w.heap.size) → wpList Tryz.prog ops Q rest (a.put o.dst v') w') :
    wpList Tryz.prog ops Q (o :: rest) a w := by
  refine wpList_plain hgd fun K hK => ?_
  obtain ⟨v', w', hr, h2, h3, h4⟩ := run_append_str w v l s hown hb o.type
  unfold Oper.wp execOp
  simp only [ho, resolve, invoke, builtin, Sem.run_bind, Sem.run_pure, Result.andThen_ok, List.map_toArray, List.map_cons, List.map_nil, hs, hx, hr]
  exact hK _ _ (h v' w' h2 h3 h4)
end Go.Proofs.YtlenfiiocmchdaaGreatDoor
