/- A slice of arrays of 32 bytes that came in. -/
import Derived.Test.YtcglkhcgnafegaaIdArr
import Derived.Deep.Slices
namespace Go.Proofs.Ytcglkhcgnafegaa
open Go.RowKit Idp
set_option linter.unusedVariables false

/-- the slice with the base a and n places leads to n arrays of 32 bytes -/
def ArrsAt (w : World) (a : Option Addr) (n : Nat) (l : List ByteArray) : Prop :=
  l.length = n ∧ n ≤ 9223372036854775807 ∧ (∀ x ∈ l, x.size = 32) ∧ (n = 0 ∨ ∃ b off, a = some ⟨b, off, none⟩ ∧ ∀ i, i < n → ∀ j, j < 32 → w.cell? ⟨b, off + i * 32 + j, none⟩ = some (.int .u8 (((l.getD i ByteArray.empty).data.toList.getD j 0).toNat : Int)))
theorem ArrsAt.later {w w' : World} {a : Option Addr} {n : Nat} {l : List ByteArray} (h : ArrsAt w a n l) (hb : Below w.heap.size w w') : ArrsAt w' a n l := by
  obtain ⟨h1, h2, h3, h4⟩ := h
  refine ⟨h1, h2, h3, h4.imp id ?_⟩
  rintro ⟨b, off, ha, hc⟩
  refine ⟨b, off, ha, fun i hi j hj => ?_⟩
  have h5 := hc i hi j hj
  rw [hb.cell (p := ⟨b, off + i * 32 + j, none⟩) (World.block_lt_of_cell? w _ h5)]
  exact h5
theorem open_ids {H : Type} {enc : TypeId × Value → H} {W : World} {a : Option Addr} {n c : Nat} {d : DataW H} {p : List MemPlace}
    (h : DataW.Trod enc Try.prog W 0 (fun _ => true) true 37 (.slice a n c) d p) : ∃ l, ArrsAt W a n l := by
  obtain ⟨fuel, hf⟩ := h
  rcases Deep.open_slice Try.underlying37 hf with ⟨hcs, _⟩ | ⟨x, len, cap, m, k, D, Pl, hcs, _, hl, hm, hmm, _, hx⟩
  · simp [Value.cells] at hcs
    obtain ⟨rfl, rfl, rfl⟩ := hcs
    exact ⟨[], rfl, by omega, by simp, .inl rfl⟩
  · simp [Value.cells] at hcs
    obtain ⟨rfl, rfl, rfl⟩ := hcs
    simp at hmm
    subst hmm
    have h32 : Try.prog.cellsOf 29 = 32 := by kernel_rfl
    unfold maxLen at hm
    have hex : ∀ i, i < n → ∃ A : ByteArray, A.size = 32 ∧ ∀ j, j < 32 → W.cell? ((x.add (i * 32)).add j) = some (.int .u8 ((A.data.toList.getD j 0).toNat : Int)) := by
      intro i hi
      obtain ⟨cs', h1, h2⟩ := hx i (by omega)
      rw [h32] at h1
      obtain ⟨l, rfl, hl32⟩ := cells_of_array h2
      obtain ⟨_, _, h3⟩ := World.cells?_some h1
      refine ⟨⟨l.toArray⟩, by simp [ByteArray.size]; exact hl32, fun j hj => ?_⟩
      rw [h3 j hj]
      have hj' : j < l.length := by omega
      simp [bvals, List.getElem?_eq_getElem hj']
    obtain ⟨f, hf⟩ := Deep.choose_lt (α := ByteArray) hex
    refine ⟨(List.range n).map f, by simp, by omega, ?_, ?_⟩
    · intro y hy
      obtain ⟨i, hi, rfl⟩ := List.mem_map.1 hy
      exact (hf i (by simpa using hi)).1
    · by_cases h0 : n = 0
      · exact .inl h0
      · refine .inr ?_
        obtain ⟨b, off, spot⟩ := x
        have hc0 := (hf 0 (by omega)).2 0 (by omega)
        have hspot : spot = none := by simpa [Addr.add] using World.cell?_spot hc0
        subst hspot
        refine ⟨b, off, rfl, fun i hi j hj => ?_⟩
        have h1 := (hf i hi).2 j hj
        have h2 : ((⟨b, off, none⟩ : Addr).add (i * 32)).add j = ⟨b, off + i * 32 + j, none⟩ := by
          rw [Deep.add_add]
          unfold Addr.add; split
          · rename_i h0; have e1 : i * 32 = 0 := by omega
            have e2 : j = 0 := by omega
            rw [e1, e2]; rfl
          · simp [Nat.add_assoc]
        rw [h2] at h1
        rw [h1]
        simp [List.getD_eq_getElem?_getD, hi]
theorem ArrsAt.conv {w : World} {b off n i : Nat} {l : List ByteArray} (h : ArrsAt w (some ⟨b, off, none⟩) n l) (hi : i < n) :
    (convert 31 9 (.slice (some ⟨b, off + i * 32, none⟩) 32 32)).run Try.prog w = .ok (.string (l.getD i ByteArray.empty)) w := by
  obtain ⟨h1, h2, h3, h4⟩ := h
  obtain ⟨b', off', ha, hc⟩ := h4.resolve_left (by omega)
  cases ha
  have hmem : l.getD i ByteArray.empty ∈ l := by
    rw [List.getD_eq_getElem?_getD, List.getElem?_eq_getElem (by omega)]; exact List.getElem_mem _
  have hA := h3 _ hmem
  have hcell := hc i hi
  obtain ⟨A, hAe⟩ : ∃ A, l.getD i ByteArray.empty = A := ⟨_, rfl⟩
  rw [hAe] at hA hcell ⊢
  have hl : A.data.toList.length = 32 := by rw [size_length]; exact hA
  have h5 := run_convert_bytes_back (P := Try.prog) w 31 9 5 ⟨b, off + i * 32, none⟩ 32 A.data.toList Try.underlying31 Try.underlying5 Try.underlying9 (fun j hj => by
    have h2 : (⟨b, off + i * 32, none⟩ : Addr).add j = ⟨b, off + i * 32 + j, none⟩ := by
      unfold Addr.add; split
      · subst_vars; rfl
      · rfl
    rw [h2, hcell j (by omega), List.getD_eq_getElem?_getD, List.getElem?_eq_getElem hj]; rfl)
  rw [hl] at h5; exact h5
end Go.Proofs.Ytcglkhcgnafegaa
