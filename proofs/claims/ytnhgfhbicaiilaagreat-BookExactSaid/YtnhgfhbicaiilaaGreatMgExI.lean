/- Texts in a row: OpenInts, OpenInts3, OpenCalls. -/
import Derived.Test.YtnhgfhbicaiilaaGreatMgExH
import Derived.ChangeSlices
import Derived.WalkKit
import Derived.ProofKit
import Derived.OpenShut
import Derived.ShutString
import Derived.ChangeOld
import Derived.SliceStrings
import Derived.DataShut
import Derived.Laws.IdiomArrays
/- An argument that is a slice of ints, opened. -/
namespace Go.Proofs.YtnhgfhbicaiilaaGreat
open Go.ChangeShapes Go.WideShapes Go.ChangeAt Go.RowKit
set_option linter.unusedVariables false

theorem intsAt_of {w : World} {x : Addr} {l c : Nat} {zs : List Int} (hl : l ≤ c) (hm : c ≤ maxLen) (hz : zs.length = c) (hcell : ∀ i, i < zs.length → w.cell? (x.add i) = some (.int .i64 (zs.getD i 0))) (hw : ∀ n ∈ zs, (Lit.int .i64 n).wf = true) : IntsAt w (some x) l (zs.take l) := by
  unfold maxLen at hm
  refine ⟨by simp; omega, by omega, fun y hy => ?_, ?_⟩
  · have := hw y (List.mem_of_mem_take hy)
    exact (Lit.wf_int_iff _ _).1 this
  by_cases h0 : l = 0
  · exact .inl h0
  · refine .inr ?_
    obtain ⟨b, off, spot⟩ := x
    have hc := hcell 0 (by omega)
    have hspot : spot = none := by simpa [Addr.add] using World.cell?_spot hc
    subst hspot
    refine ⟨b, off, rfl, fun j hj => ?_⟩
    have h1 := hcell j (by omega)
    have h2 : (⟨b, off, none⟩ : Addr).add j = ⟨b, off + j, none⟩ := by
      unfold Addr.add; split
      · subst_vars; rfl
      · rfl
    rw [h2] at h1
    rw [h1]
    simp [List.getD_eq_getElem?_getD, hj]
set_option maxRecDepth 100000 in
theorem open_intsl {H : Type} {enc : TypeId × Value → H} {r : Reach} {b0 : Nat} {W : World} {held : Bool} {v : Value} {d : DataW H} {p : List MemPlace} {base : Nat} (hv : Value.okWide Tryz.prog W r b0 37 v) (h : DataW.Trod enc Tryz.prog W base (fun _ => true) held 37 v d p) :
    ∃ a n c l, v = .slice a n c ∧ IntsAt W a n l := by
  obtain ⟨a, n, c, rfl⟩ := okWide_slice Tryz.underlying37 hv
  obtain ⟨fuel, hf⟩ := h
  rcases _root_.Go.ChangeShapes.open_ints Tryz.underlying37 Tryz.underlying3 (by kernel_rfl) hf with ⟨hcs, _⟩ | ⟨x, l, c, zs, hcs, _, hl, hm, hz, _, hcell, hw⟩
  · simp [Value.cells] at hcs
    obtain ⟨rfl, rfl, rfl⟩ := hcs
    exact ⟨none, 0, 0, [], rfl, rfl, by omega, by simp, .inl rfl⟩
  · simp [Value.cells] at hcs
    obtain ⟨rfl, rfl, rfl⟩ := hcs
    exact ⟨_, _, _, _, rfl, intsAt_of hl hm (by simpa using hz) hcell hw⟩
end Go.Proofs.YtnhgfhbicaiilaaGreat
/- An argument that is an array of three slices of ints, opened. -/
namespace Go.Proofs.YtnhgfhbicaiilaaGreat
open Go.ChangeShapes Go.WideShapes Go.ChangeAt Go.RowKit
set_option linter.unusedVariables false

set_option maxRecDepth 100000 in
theorem intsAt_one {H : Type} {enc : TypeId × Value → H} {W : World} {base fuel : Nat} {spare : Nat → Bool} {held : Bool} {v : Value} {y : DataW H × List MemPlace} (h : DataW.trod enc Tryz.prog W base spare held fuel 37 [v] = some y) :
    ∃ a n c l, v = .slice a n c ∧ IntsAt W a n l := by
  rcases _root_.Go.ChangeShapes.open_ints Tryz.underlying37 Tryz.underlying3 (by kernel_rfl) h with ⟨hcs, _⟩ | ⟨x, l, c, zs, hcs, _, hl, hm, hz, _, hcell, hw⟩
  · simp at hcs
    subst hcs
    exact ⟨none, 0, 0, [], rfl, rfl, by omega, by simp, .inl rfl⟩
  · simp at hcs
    subst hcs
    have hlc : l ≤ zs.length := by rw [hz]; split <;> omega
    refine ⟨_, _, _, zs.take l, rfl, ?_⟩
    unfold maxLen at hm
    refine ⟨by simp; omega, by omega, fun y hy => ?_, ?_⟩
    · have := hw y (List.mem_of_mem_take hy)
      exact (Lit.wf_int_iff _ _).1 this
    by_cases h0 : l = 0
    · exact .inl h0
    · refine .inr ?_
      obtain ⟨b, off, spot⟩ := x
      have hspot : spot = none := by simpa [Addr.add] using World.cell?_spot (hcell 0 (by omega))
      subst hspot
      refine ⟨b, off, rfl, fun j hj => ?_⟩
      have h1 := hcell j (by omega)
      have h2 : (⟨b, off, none⟩ : Addr).add j = ⟨b, off + j, none⟩ := by
        unfold Addr.add; split
        · subst_vars; rfl
        · rfl
      rw [h2] at h1
      rw [h1]
      simp [List.getD_eq_getElem?_getD, hj]
end Go.Proofs.YtnhgfhbicaiilaaGreat
/- An argument that is a slice of calls (a number, texts, a number, numbers), opened: with the bound of its texts. -/
namespace Go.Proofs.YtnhgfhbicaiilaaGreat
open Go.ChangeShapes Go.WideShapes Go.ChangeAt Go.RowKit Go.Deep
set_option linter.unusedVariables false

set_option maxRecDepth 100000 in
theorem open_calls {H : Type} {enc : TypeId × Value → H} {r : Reach} {b0 : Nat} {W : World} {held : Bool} {v : Value} {d : DataW H} {p : List MemPlace} {base : Nat} (hv : Value.okWide Tryz.prog W r b0 22 v) (h : DataW.Trod enc Tryz.prog W base (fun _ => true) held 22 v d p)
    (hz : ∀ n ∈ d.weights Tryz.prog 22, n ≤ reachBytes) : ∃ a n c, v = .slice a n c ∧ CallsAt W a n := by
  obtain ⟨a, n, c, rfl⟩ := okWide_slice Tryz.underlying22 hv
  obtain ⟨fuel, hf⟩ := h
  rcases open_slice_fields Tryz.underlying22 Tryz.underlying39 (by kernel_rfl) (by kernel_rfl) hf with ⟨hcs, _⟩ | ⟨x, l, c', m, D, Pl, hcs, _, hl, hm, hmm, hD, hi⟩
  · simp [Value.cells] at hcs
    obtain ⟨rfl, rfl, rfl⟩ := hcs
    exact ⟨none, 0, 0, rfl, by omega, .inl rfl⟩
  · simp [Value.cells] at hcs
    obtain ⟨rfl, rfl, rfl⟩ := hcs
    unfold maxLen at hm
    refine ⟨_, _, _, rfl, by omega, ?_⟩
    by_cases h0 : n = 0
    · exact .inl h0
    · refine .inr ?_
      obtain ⟨b, off, spot⟩ := x
      have hspot : spot = none := by
        obtain ⟨ys, k, _, _, _, hfs⟩ := hi 0 (by rw [hmm]; simp; omega)
        obtain ⟨v0, y0, hc0, _, _⟩ := hfs 0 _ rfl
        simpa [Addr.add] using World.cell?_spot hc0
      subst hspot
      refine ⟨b, off, rfl, fun j hj => ?_⟩
      obtain ⟨ys, k, hDj, _, hyl, hfs⟩ := hi j (by rw [hmm]; simp; omega)
      have hadd : ∀ q, (⟨b, off, none⟩ : Addr).add (j * 4 + q) = ⟨b, off + j * 4 + q, none⟩ := fun q => by
        unfold Addr.add; split
        · rename_i h; rw [show off + j * 4 + q = off by omega]
        · rw [← Nat.add_assoc]
      obtain ⟨v0, y0, c0, e0, t0⟩ := hfs 0 _ rfl
      obtain ⟨v1, y1, c1, e1, t1⟩ := hfs 1 _ rfl
      obtain ⟨v2, y2, c2, e2, t2⟩ := hfs 2 _ rfl
      obtain ⟨v3, y3, c3, e3, t3⟩ := hfs 3 _ rfl
      have c0 : W.cell? ⟨b, off + j * 4 + 0, none⟩ = some v0 := by have h : W.cell? ((⟨b, off, none⟩ : Addr).add (j * 4 + 0)) = some v0 := c0; rwa [hadd 0] at h
      have c1 : W.cell? ⟨b, off + j * 4 + 1, none⟩ = some v1 := by have h : W.cell? ((⟨b, off, none⟩ : Addr).add (j * 4 + 1)) = some v1 := c1; rwa [hadd 1] at h
      have c2 : W.cell? ⟨b, off + j * 4 + 2, none⟩ = some v2 := by have h : W.cell? ((⟨b, off, none⟩ : Addr).add (j * 4 + 2)) = some v2 := c2; rwa [hadd 2] at h
      have c3 : W.cell? ⟨b, off + j * 4 + 3, none⟩ = some v3 := by have h : W.cell? ((⟨b, off, none⟩ : Addr).add (j * 4 + 3)) = some v3 := c3; rwa [hadd 3] at h
      obtain ⟨kind, k0, _, w0⟩ := DataW.trod_int Tryz.underlying3 t0
      obtain ⟨ra, rn, rc, rl, rfl, w1, z1⟩ := strsAt_one t1
      obtain ⟨nn, k2, _, w2⟩ := DataW.trod_int Tryz.underlying3 t2
      obtain ⟨fa, fn, fc, fl, rfl, w3⟩ := intsAt_one t3
      simp only [List.cons.injEq, and_true] at k0 k2
      subst k0 k2
      refine ⟨kind, ra, rn, rc, rl, nn, fa, fn, fc, fl, c0, c1, c2, c3, w1, fun x hx => ?_, w3, (Lit.wf_int_iff _ _).1 w2⟩
      have hin : x.size ∈ (d.weights Tryz.prog 22) := by
        have hd : d = .slice ((List.range n).map D) ((List.range (m - n)).map fun q => D (n + q)) := (Prod.mk.inj hD).1
        rw [hd]
        refine weights_slice Tryz.underlying22 (List.mem_map.2 ⟨j, List.mem_range.2 hj, rfl⟩) ?_
        rw [hDj]
        exact weights_struct Tryz.underlying39 (j := 1) rfl (by rw [List.getElem?_map, e1]; rfl) (z1 x hx)
      have := hz _ hin
      unfold reachBytes at this
      omega
end Go.Proofs.YtnhgfhbicaiilaaGreat
