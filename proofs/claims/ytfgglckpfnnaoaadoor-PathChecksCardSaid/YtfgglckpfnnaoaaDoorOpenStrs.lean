/- An argument that is a slice of strings, opened, with what the bound gives; a world in which the listed tables lie; what the shaped world says of the library's length variable. -/
import Derived.Test.YtfgglckpfnnaoaaDoorPathWalkB
import Derived.Test.YtfgglckpfnnaoaaDoorBulk
import Derived.Test.YtfgglckpfnnaoaaDoorCards
import Derived.Test.YtfgglckpfnnaoaaDoorTie
import Derived.WalkKit
import Derived.ProofKit
import Derived.OpenShut
import Derived.ShutString
import Derived.ChangeOld
import Derived.Below
import Derived.SliceStrings
import Derived.Deep.DeepHandedRow
import Derived.Lib.LaidTab
namespace Go.Proofs.YtfgglckpfnnaoaaDoor
open Go.ChangeShapes Go.WideShapes Go.ChangeAt Go.RowKit
set_option linter.unusedVariables false

set_option maxRecDepth 100000 in
theorem maxAt_shaped {W : World} (h : W.ShapedOpen Tryd.prog) : MaxAt W :=
  Go.Proofs.cell_of_shapedOpen_int (zero := #[.int .i64 0]) (t := 3) h (of_decide_eq_true (by kernel_rfl)) (by kernel_rfl) rfl (by kernel_rfl) (by kernel_rfl) Tryd.underlying3
theorem bytes_size (x : ByteArray) : x.data.toList.length = x.size := Array.length_toList
set_option maxRecDepth 100000 in
theorem open_strs {H : Type} {enc : TypeId × Value → H} {r : Reach} {b0 : Nat} {W : World} {held : Bool} {v : Value} {d : DataW H} {p : List MemPlace} {base : Nat} (hv : Value.okWide Tryd.prog W r b0 22 v) (h : DataW.Trod enc Tryd.prog W base (fun _ => true) held 22 v d p) :
    ∃ a n c l, v = .slice a n c ∧ StrsAt W a n l ∧ n ≤ c ∧ c ≤ maxLen ∧ ∀ x ∈ l, x.size ≤ Rows.uptoBulk d := by
  obtain ⟨a, n, c, rfl⟩ := okWide_slice Tryd.underlying22 hv
  obtain ⟨fuel, hf⟩ := h
  rcases open_strings Tryd.underlying22 Tryd.underlying9 (by kernel_rfl) hf with ⟨hcs, _⟩ | ⟨x, l, c, ss, hcs, _, hl, hm, hz, hx, hcell, hws⟩
  · simp [Value.cells] at hcs
    obtain ⟨rfl, rfl, rfl⟩ := hcs
    exact ⟨none, 0, 0, [], rfl, ⟨rfl, by omega, .inl rfl⟩, by omega, by unfold maxLen; omega, fun x hx => by cases hx⟩
  · simp [Value.cells] at hcs
    obtain ⟨rfl, rfl, rfl⟩ := hcs
    refine ⟨_, _, _, ss.take n, rfl, ?_, hl, hm, ?_⟩
    · exact strsAt_of hl hm hz hcell
    · intro y hy
      have hd : d = .slice (strs (ss.take n)) (strs (ss.drop n)) := (Prod.mk.inj hx).1
      rw [hd]
      have h1 : (DataW.lit (.string y.data.toList) : DataW H) ∈ strs (ss.take n) := by unfold strs; exact List.mem_map.2 ⟨y, hy, rfl⟩
      have h2 := bulks.part_le h1
      have h3 := bulks.slice_elems (strs (ss.take n) : List (DataW H)) (strs (ss.drop n))
      rw [bulks.string_eq, bytes_size] at h2
      omega

/-- the listed tables, as they lie -/
def lay (C : Array Value) : Obj → Obj
  | .cells _ t frozen => .cells C t frozen
  | o => o
noncomputable def laidWorld (os : Os) : World :=
  { World.holding Tryd.prog os ⟨#[], #[], []⟩ with heap := ((World.holding Tryd.prog os ⟨#[], #[], []⟩).heap.modify 1 (lay (Go.Pinned.utf8FirstZ.map fun n : Nat => Value.int .u8 (Int.ofNat n)).toArray)).modify 2 (lay ([128, 191, 160, 191, 128, 159, 144, 191, 128, 143, 0, 0, 0, 0, 0, 0, 0, 0, 0, 0, 0, 0, 0, 0, 0, 0, 0, 0, 0, 0, 0, 0].map fun n => Value.int .u8 n).toArray) }
end Go.Proofs.YtfgglckpfnnaoaaDoor
