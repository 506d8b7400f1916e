/- An array of 32 bytes that came in: as bytes; boxed, sliced, turned to a text. -/
import Derived.Test.YtcglkhcgnafegaaIdWalkI
import Derived.OpenShut
import Derived.ChangeArms
namespace Go.Proofs.Ytcglkhcgnafegaa
open Go.RowKit Idp
set_option linter.unusedVariables false

/-- the value of an array of bytes -/
def arrV (A : ByteArray) : Value := .agg (bvals A.data.toList).toArray
theorem cells_uint8 : Try.prog.cellsOf 5 = 1 := by kernel_rfl
theorem bytes_of_cells : ∀ (l : List Value), (∀ v ∈ l, ∃ b : UInt8, v = .int .u8 (b.toNat : Int)) → ∃ m : List UInt8, l = bvals m
  | [], _ => ⟨[], rfl⟩
  | v :: l, h => by
    obtain ⟨b, rfl⟩ := h v (by simp)
    obtain ⟨m, rfl⟩ := bytes_of_cells l (fun v hv => h v (by simp [hv]))
    exact ⟨b :: m, rfl⟩
theorem byte_of_wf {n : Int} (h : (Lit.int .u8 n).wf = true) : ∃ b : UInt8, n = (b.toNat : Int) := by
  have hx : 0 ≤ n ∧ n ≤ 255 := by simpa [Lit.wf, IntKind.min, IntKind.max, IntKind.signed, IntKind.bits] using h
  refine ⟨n.toNat.toUInt8, ?_⟩
  simp; omega
theorem cells_of_array {H : Type} {enc : TypeId × Value → H} {W : World} {base : Nat} {spare : Nat → Bool} {held : Bool} {fuel : Nat} {cs : List Value} {x : DataW H × List MemPlace}
    (hf : DataW.trod enc Try.prog W base spare held fuel 29 cs = some x) : ∃ m : List UInt8, cs = bvals m ∧ m.length = 32 := by
  obtain ⟨xs, m, rfl, _, hl, hxs, hall⟩ := DataW.trod_array Try.underlying29 hf
  have h32 : Try.prog.cellsOf 29 = 32 := by kernel_rfl
  rw [h32] at hl
  have key : ∀ v ∈ cs, ∃ b : UInt8, v = .int .u8 (b.toNat : Int) := by
    intro v hv
    obtain ⟨i, hi, rfl⟩ := List.getElem_of_mem hv
    have h1 := hall i (by omega)
    rw [cells_uint8, Nat.mul_one, List.getElem?_eq_getElem (by omega)] at h1
    have h2 : (cs.drop i).take 1 = [cs[i]] := by
      rw [List.drop_eq_getElem_cons hi]; rfl
    rw [h2] at h1
    obtain ⟨n, hn, _, hw⟩ := DataW.trod_int Try.underlying5 h1
    obtain ⟨b, rfl⟩ := byte_of_wf hw
    exact ⟨b, by simpa using hn⟩
  obtain ⟨l, rfl⟩ := bytes_of_cells cs key
  exact ⟨l, rfl, by simpa [bvals_length] using hl⟩
theorem open_id {H : Type} {enc : TypeId × Value → H} {W : World} {r : Reach} {b0 base : Nat} {spare : Nat → Bool} {held : Bool} {v : Value} {d : DataW H} {p : List MemPlace}
    (hv : Value.okWide Try.prog W r b0 29 v) (h : DataW.Trod enc Try.prog W base spare held 29 v d p) : ∃ A : ByteArray, v = arrV A ∧ A.size = 32 := by
  unfold Value.okWide at hv
  rw [Try.underlying29] at hv
  obtain ⟨cs, rfl, hsz, _⟩ := hv
  obtain ⟨fuel, hf⟩ := h
  obtain ⟨m, hm, hl⟩ := cells_of_array (cs := cs.toList) hf
  refine ⟨⟨m.toArray⟩, ?_, by simpa [ByteArray.size] using hl⟩
  unfold arrV
  have : cs = (bvals m).toArray := by rw [← hm]
  rw [this]

/-- the block where an array lies -/
def ArrAt (w : World) (b : Nat) (T : TypeId) (A : ByteArray) : Prop := w.heap[b]? = some (.cells (bvals A.data.toList).toArray T (0, 0))
theorem ArrAt.below {w w' : World} {b : Nat} {T : TypeId} {A : ByteArray} (h : ArrAt w b T A) (hb : Below w.heap.size w w') : ArrAt w' b T A := by
  have hlt : b < w.heap.size := by
    rcases Nat.lt_or_ge b w.heap.size with h' | h'
    · exact h'
    · unfold ArrAt at h; simp [Array.getElem?_eq_none h'] at h
  unfold ArrAt; rw [hb.block b hlt]; exact h
theorem ArrAt.cell {w : World} {b : Nat} {T : TypeId} {A : ByteArray} (h : ArrAt w b T A) {j : Nat} (hj : j < A.size) : w.cell? ⟨b, j, none⟩ = some (.int .u8 ((A[j]).toNat : Int)) := by
  unfold ArrAt at h
  simp only [World.cell?, h]
  simp [bvals, hj]
  rfl
theorem ArrAt.frozen {w : World} {b : Nat} {T : TypeId} {A : ByteArray} (h : ArrAt w b T A) (j : Nat) : w.frozen? ⟨b, j, none⟩ = false := by
  unfold ArrAt at h; simp [World.frozen?, h]
theorem ArrAt.conv {w : World} {b : Nat} {T : TypeId} {A : ByteArray} (h : ArrAt w b T A) (hA : A.size = 32) : (convert 31 9 (.slice (some ⟨b, 0, none⟩) 32 32)).run Try.prog w = .ok (.string A) w := by
  have hl : A.data.toList.length = 32 := by rw [size_length]; exact hA
  have h1 := run_convert_bytes_back (P := Try.prog) w 31 9 5 ⟨b, 0, none⟩ 32 A.data.toList Try.underlying31 Try.underlying5 Try.underlying9 (fun j hj => by
    have h2 : (⟨b, 0, none⟩ : Addr).add j = ⟨b, j, none⟩ := by
      unfold Addr.add; split
      · subst_vars; rfl
      · simp
    rw [h2, h.cell (by rw [size_length] at hj; exact hj)]; rfl)
  rw [hl] at h1; exact h1
end Go.Proofs.Ytcglkhcgnafegaa
