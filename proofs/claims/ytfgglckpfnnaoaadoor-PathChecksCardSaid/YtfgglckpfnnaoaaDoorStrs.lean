/- A slice of strings in memory; slices.Contains over it; a slice of strings of the call's own. -/
import Derived.Test.YtfgglckpfnnaoaaDoorMem
import Derived.Test.YtfgglckpfnnaoaaDoorShelf
namespace Go.Proofs.YtfgglckpfnnaoaaDoor
open Go.RowKit
set_option linter.unusedVariables false

/-- the slice with the base a and n places reads as the list l -/
def StrsAt (w : World) (a : Option Addr) (n : Nat) (l : List ByteArray) : Prop :=
  l.length = n ∧ n ≤ 9223372036854775807 ∧ (n = 0 ∨ ∃ b off, a = some ⟨b, off, none⟩ ∧ ∀ j, j < n → w.cell? ⟨b, off + j, none⟩ = some (.string (l.getD j ByteArray.empty)))
theorem StrsAt.later {w w' : World} {a : Option Addr} {n : Nat} {l : List ByteArray} (h : StrsAt w a n l) (hb : Below w.heap.size w w') : StrsAt w' a n l := by
  obtain ⟨h1, h2, h3⟩ := h
  refine ⟨h1, h2, h3.imp id ?_⟩
  rintro ⟨b, off, ha, hc⟩
  refine ⟨b, off, ha, fun j hj => ?_⟩
  have h4 := hc j hj
  rw [hb.cell (p := ⟨b, off + j, none⟩) (World.block_lt_of_cell? w _ h4)]
  exact h4
theorem strsAt_of {w : World} {x : Addr} {l c : Nat} {ss : List ByteArray} (hl : l ≤ c) (hm : c ≤ maxLen) (hz : ss.length = c) (hcell : ∀ i, i < ss.length → w.cell? (x.add i) = some (.string (ss.getD i ByteArray.empty))) : StrsAt w (some x) l (ss.take l) := by
  unfold maxLen at hm
  refine ⟨by rw [List.length_take]; omega, by omega, ?_⟩
  by_cases h0 : l = 0
  · exact .inl h0
  · refine .inr ?_
    obtain ⟨b, off, spot⟩ := x
    have hc := hcell 0 (by omega)
    have hspot : spot = none := by simpa [Addr.add] using World.cell?_spot hc
    subst hspot
    refine ⟨b, off, rfl, fun j hj => ?_⟩
    have h1 := hcell j (by omega)
    have h2 : (⟨b, off, none⟩ : Addr).add j = ⟨b, off + j, none⟩ := by
      unfold Addr.add; split
      · subst_vars; rfl
      · rfl
    rw [h2] at h1
    rw [h1]; simp only [List.getD_eq_getElem?_getD]
    rw [List.getElem?_take, if_pos hj]
def svals (l : List ByteArray) : List Value := l.map Value.string
theorem svals_append (l r : List ByteArray) : svals (l ++ r) = svals l ++ svals r := by simp [svals]
theorem own_strs {w : World} {B : Nat} {v : Value} {l : List ByteArray} (h : w.ownsRow B 9 1 v l.length (svals l)) (hm : l.length ≤ 9223372036854775807) :
    ∃ a c, v = .slice a l.length c ∧ StrsAt w a l.length l := by
  have h' := h
  rcases h.2 with ⟨rfl, h0⟩ | ⟨g, cap, cur, rfl, hb, hg, hn, hc, hsz, htk⟩
  · exact ⟨none, 0, by rw [h0], rfl, by omega, .inl h0⟩
  · refine ⟨_, _, rfl, rfl, hm, .inr ⟨g, 0, rfl, fun j hj => ?_⟩⟩
    have h1 := h'.cellAt j (by omega)
    rw [Nat.zero_add, h1]
    simp [svals, List.getElem?_eq_getElem hj]
theorem own_string_snoc {w : World} {B e s : Nat} {v : Value} {l : List ByteArray} {c : ByteArray} (h : w.ownsRow B e s v (l.length + 1) (svals l ++ [.string c])) : w.ownsRow B e s v (l ++ [c]).length (svals (l ++ [c])) := by
  rw [svals_append, List.length_append]; exact h
theorem Tryd.infoS : (Tryd.prog.info? 9).map (fun i => (i.zero, i.size, i.bytes)) = some (some (.string ⟨#[]⟩), 1, 16) := by kernel_rfl

theorem contains_any (a : Option Addr) (n c : Nat) (l : List ByteArray) (x : ByteArray) (w : World) (h : StrsAt w a n l) :
    Calls Tryd.prog 32 #[.slice a n c, .string x] w fun e w' => e = .returned (.bool (decide (∃ o ∈ l, o = x))) ∧ w = w' := by
  obtain ⟨h1, h2, h3⟩ := h
  have hm : ∀ q : Bool, (q = true ↔ x ∈ l) → q = decide (∃ o ∈ l, o = x) := fun q hq => by
    rw [Bool.eq_iff_iff, hq]; simp
  rcases h3 with rfl | ⟨b, off, rfl, hc⟩
  · obtain rfl : l = [] := List.length_eq_zero_iff.1 h1
    refine (Tryd.slices_Contains_string_empty a c x w).mono ?_
    rintro e w' ⟨rfl, hw⟩
    exact ⟨ret_bool (hm _ (by simp)), hw.symm⟩
  · refine (Tryd.slices_Contains_string b off n c l x w (by omega) h2 (fun j hj => hc j (by omega))).mono ?_
    rintro e w' ⟨rfl, hw⟩
    exact ⟨ret_bool (hm _ (by rw [List.take_of_length_le (by omega)]; exact Lib.containsS_iff l x)), hw.symm⟩
end Go.Proofs.YtfgglckpfnnaoaaDoor
