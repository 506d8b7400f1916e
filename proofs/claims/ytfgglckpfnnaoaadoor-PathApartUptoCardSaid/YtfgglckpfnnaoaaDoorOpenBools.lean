/- An argument that is a slice of bools, opened. -/
import Derived.Test.YtfgglckpfnnaoaaDoorOpenStrs
import Derived.Test.YtfgglckpfnnaoaaDoorPathLawC
import Derived.Deep.Grids
namespace Go.Proofs.YtfgglckpfnnaoaaDoor
open Go.ChangeShapes Go.WideShapes Go.ChangeAt Go.RowKit
set_option linter.unusedVariables false

theorem boolsAt_of {w : World} {x : Addr} {l c : Nat} {B : Nat → Bool} (hl : l ≤ c) (hm : c ≤ maxLen) (hcell : ∀ i, i < c → w.cell? (x.add i) = some (.bool (B i))) : BoolsAt w (some x) l ((List.range l).map B) := by
  unfold maxLen at hm
  refine ⟨by simp, by omega, ?_⟩
  by_cases h0 : l = 0
  · exact .inl h0
  · refine .inr ?_
    obtain ⟨b, off, spot⟩ := x
    have hc := hcell 0 (by omega)
    have hspot : spot = none := by simpa [Addr.add] using World.cell?_spot hc
    subst hspot
    refine ⟨b, off, rfl, fun j hj => ?_⟩
    have h1 := hcell j (by omega)
    have h2 : (⟨b, off, none⟩ : Addr).add j = ⟨b, off + j, none⟩ := by
      unfold Addr.add; split
      · subst_vars; rfl
      · rfl
    rw [h2] at h1
    rw [h1]
    simp [List.getD_eq_getElem?_getD, hj]
theorem open_bools {H : Type} {enc : TypeId × Value → H} {r : Reach} {b0 : Nat} {W : World} {held : Bool} {v : Value} {d : DataW H} {p : List MemPlace} {base : Nat} (hv : Value.okWide Tryd.prog W r b0 38 v) (h : DataW.Trod enc Tryd.prog W base (fun _ => true) held 38 v d p) :
    ∃ a n c l, v = .slice a n c ∧ BoolsAt W a n l := by
  obtain ⟨a, n, c, rfl⟩ := okWide_slice Tryd.underlying38 hv
  obtain ⟨fuel, hf⟩ := h
  rcases _root_.Go.Deep.open_bools Tryd.underlying38 Tryd.underlying4 (by kernel_rfl) hf with ⟨hcs, _⟩ | ⟨x, l, c, B, hcs, _, hl, hm, _, hcell⟩
  · simp [Value.cells] at hcs
    obtain ⟨rfl, rfl, rfl⟩ := hcs
    exact ⟨none, 0, 0, [], rfl, ⟨rfl, by omega, .inl rfl⟩⟩
  · simp [Value.cells] at hcs
    obtain ⟨rfl, rfl, rfl⟩ := hcs
    exact ⟨_, _, _, (List.range n).map B, rfl, boolsAt_of hl hm hcell⟩
end Go.Proofs.YtfgglckpfnnaoaaDoor
