/- An argument that is a slice of the law's calls (structs of five fields, the last a slice of ints), opened. -/
import Derived.Test.YthjomknhbfplnaaOpenInts
import Derived.Test.YthjomknhbfplnaaReelAct
import Derived.Test.YthjomknhbfplnaaReelW
import Derived.Deep.Slices
import Derived.Deep.Fields
import Derived.ChangeSame
namespace Go.Proofs.Ythjomknhbfplnaa
open Go.ChangeShapes Go.WideShapes Go.ChangeAt Go.RowKit Go.Deep Reel
set_option linter.unusedVariables false

section
variable {H : Type} {enc : TypeId × Value → H} {P : Program} {w : World} {base : Nat} {spare : Nat → Bool} {held : Bool}
theorem open_slice_fields {t e : TypeId} {fs : Array Field} {fuel : Nat} {cs : List Value} {x : DataW H × List MemPlace} (ht : P.underlying t = some (.slice e)) (he : P.underlying e = some (.struct fs))
    (hone : oneCellFields P fs = true) (hC : P.cellsOf e = fs.size) (h : DataW.trod enc P w base spare held fuel t cs = some x) :
    (cs = [.slice none 0 0] ∧ x = (.nil, [])) ∨
    ∃ (a : Addr) (len cap m : Nat) (D : Nat → DataW H) (Pl : Nat → List MemPlace), cs = [.slice (some a) len cap] ∧ base ≤ a.block ∧ len ≤ cap ∧ cap ≤ maxLen ∧ m = (if spare a.block then cap else len) ∧
      x = (.slice ((List.range len).map D) ((List.range (m - len)).map fun j => D (len + j)), MemPlace.row a (m * fs.size) ++ (List.range m).flatMap Pl) ∧
      ∀ i, i < m → ∃ (ys : List (DataW H × List MemPlace)) (n : Nat), D i = .agg (ys.map (·.1)) ∧ Pl i = ys.flatMap (·.2) ∧ ys.length = fs.size ∧
        ∀ (j : Nat) (f : Field), fs[j]? = some f → ∃ (v : Value) (y : DataW H × List MemPlace), w.cell? (a.add (i * fs.size + j)) = some v ∧ ys[j]? = some y ∧ DataW.trod enc P w base spare held n f.type [v] = some y := by
  rcases open_slice ht h with h0 | ⟨a, len, cap, m, n, D, Pl, hcs, hb, hl, hm, hmm, hx, hi⟩
  · exact .inl h0
  · refine .inr ⟨a, len, cap, m, D, Pl, hcs, hb, hl, hm, hmm, by rw [hC] at hx; exact hx, fun i him => ?_⟩
    obtain ⟨cs', hc, ht'⟩ := hi i him
    rw [hC] at hc
    obtain ⟨ys, n', hn', hy, hlen, hyl, hf⟩ := DataW.trod_struct he ht'
    obtain ⟨_, hcl, hat⟩ := World.cells?_some hc
    simp only [Prod.mk.injEq] at hy
    refine ⟨ys, n', hy.1, hy.2, hyl, fun j f hj => ?_⟩
    obtain ⟨ho, hk⟩ := hone_of hone j f hj
    have hjl : j < fs.size := (Array.getElem?_eq_some_iff.1 hj).1
    have hcell := hat j hjl
    have hv : cs'[j]? = some (cs'[j]'(by omega)) := List.getElem?_eq_getElem (by omega)
    have h1 := hf j f hj
    rw [ho, hk] at h1
    have hone' : (cs'.drop j).take 1 = [cs'[j]'(by omega)] := by
      rw [List.drop_eq_getElem_cons (by omega)]
      rfl
    rw [hone'] at h1
    have hys : ys[j]? = some (ys[j]'(by omega)) := List.getElem?_eq_getElem (by omega)
    refine ⟨_, _, ?_, hys, h1.trans hys⟩
    rw [← Go.Deep.add_add, hcell, hv]
end
/-- what a call's numbers and texts are bound by -/
def ActV.Wf (x : ActV) : Prop := (-9223372036854775808 ≤ x.kind ∧ x.kind ≤ 9223372036854775807) ∧ (-9223372036854775808 ≤ x.n ∧ x.n ≤ 9223372036854775807) ∧ x.name.size ≤ 9223372036854775807 ∧ x.text.size ≤ 9223372036854775807
/-- a call at a place in memory -/
structure ActAt (w : World) (b o : Nat) (x : ActV) (fa : Option Addr) (fn fc : Nat) : Prop where
  kind : w.cell? ⟨b, o, none⟩ = some (.int .i64 x.kind)
  name : w.cell? ⟨b, o + 1, none⟩ = some (.string x.name)
  text : w.cell? ⟨b, o + 2, none⟩ = some (.string x.text)
  n : w.cell? ⟨b, o + 3, none⟩ = some (.int .i64 x.n)
  fates : w.cell? ⟨b, o + 4, none⟩ = some (.slice fa fn fc)
  ints : IntsAt w fa fn x.fates
  wf : ActV.Wf x
/-- a slice of them -/
def ActsAt (w : World) (a : Option Addr) (n : Nat) : Prop := n ≤ 9223372036854775807 ∧ (n = 0 ∨ ∃ b off, a = some ⟨b, off, none⟩ ∧ ∀ j, j < n → ∃ x fa fn fc, ActAt w b (off + j * 5) x fa fn fc)
theorem intsAt_one {H : Type} {enc : TypeId × Value → H} {W : World} {base fuel : Nat} {spare : Nat → Bool} {held : Bool} {v : Value} {y : DataW H × List MemPlace} (h : DataW.trod enc Try.prog W base spare held fuel 23 [v] = some y) : ∃ a n c l, v = .slice a n c ∧ IntsAt W a n l := by
  rcases _root_.Go.ChangeShapes.open_ints Try.underlying23 Try.underlying3 (by kernel_rfl) h with ⟨hcs, _⟩ | ⟨x, l, c, zs, hcs, _, hl, hm, hz, _, hcell, hw⟩
  · simp at hcs
    subst hcs
    exact ⟨none, 0, 0, [], rfl, rfl, by omega, by simp, .inl rfl⟩
  · simp at hcs
    subst hcs
    have hz' : l ≤ zs.length := by rw [hz]; split <;> omega
    refine ⟨_, _, _, zs.take l, rfl, ?_⟩
    unfold maxLen at hm
    refine ⟨by simp; omega, by omega, fun y hy => (Lit.wf_int_iff _ _).1 (hw y (List.mem_of_mem_take hy)), ?_⟩
    by_cases h0 : l = 0
    · exact .inl h0
    · refine .inr ?_
      obtain ⟨b, off, spot⟩ := x
      have hc := hcell 0 (by omega)
      have hspot : spot = none := by simpa [Addr.add] using World.cell?_spot hc
      subst hspot
      refine ⟨b, off, rfl, fun j hj => ?_⟩
      have h1 := hcell j (by omega)
      have h2 : (⟨b, off, none⟩ : Addr).add j = ⟨b, off + j, none⟩ := by
        unfold Addr.add; split
        · subst_vars; rfl
        · rfl
      rw [h2] at h1
      rw [h1]
      simp [List.getD_eq_getElem?_getD, hj]
theorem open_acts {H : Type} {enc : TypeId × Value → H} {r : Reach} {b0 : Nat} {W : World} {held : Bool} {v : Value} {d : DataW H} {p : List MemPlace} {base : Nat} (hv : Value.okWide Try.prog W r b0 42 v) (h : DataW.Trod enc Try.prog W base (fun _ => true) held 42 v d p) :
    ∃ a n c, v = .slice a n c ∧ ActsAt W a n := by
  obtain ⟨a, n, c, rfl⟩ := okWide_slice Try.underlying42 hv
  obtain ⟨fuel, hf⟩ := h
  rcases open_slice_fields Try.underlying42 Try.underlying46 (by kernel_rfl) (by kernel_rfl) hf with ⟨hcs, _⟩ | ⟨x, l, c', m, D, Pl, hcs, _, hl, hm, hmm, _, hi⟩
  · simp [Value.cells] at hcs
    obtain ⟨rfl, rfl, rfl⟩ := hcs
    exact ⟨none, 0, 0, rfl, by omega, .inl rfl⟩
  · simp [Value.cells] at hcs
    obtain ⟨rfl, rfl, rfl⟩ := hcs
    unfold maxLen at hm
    refine ⟨_, _, _, rfl, by omega, ?_⟩
    by_cases h0 : n = 0
    · exact .inl h0
    · refine .inr ?_
      obtain ⟨b, off, spot⟩ := x
      have hspot : spot = none := by
        obtain ⟨ys, k, _, _, _, hfs⟩ := hi 0 (by rw [hmm]; simp; omega)
        obtain ⟨v0, y0, hc0, _, _⟩ := hfs 0 _ rfl
        simpa [Addr.add] using World.cell?_spot hc0
      subst hspot
      refine ⟨b, off, rfl, fun j hj => ?_⟩
      obtain ⟨ys, k, _, _, _, hfs⟩ := hi j (by rw [hmm]; simp; omega)
      have hadd : ∀ q, (⟨b, off, none⟩ : Addr).add (j * 5 + q) = ⟨b, off + j * 5 + q, none⟩ := fun q => by
        unfold Addr.add; split
        · rename_i h; rw [show off + j * 5 + q = off by omega]
        · rw [← Nat.add_assoc]
      obtain ⟨v0, y0, c0, _, t0⟩ := hfs 0 _ rfl
      obtain ⟨v1, y1, c1, _, t1⟩ := hfs 1 _ rfl
      obtain ⟨v2, y2, c2, _, t2⟩ := hfs 2 _ rfl
      obtain ⟨v3, y3, c3, _, t3⟩ := hfs 3 _ rfl
      obtain ⟨v4, y4, c4, _, t4⟩ := hfs 4 _ rfl
      have c0 : W.cell? ⟨b, off + j * 5 + 0, none⟩ = some v0 := by have h : W.cell? ((⟨b, off, none⟩ : Addr).add (j * 5 + 0)) = some v0 := c0; rwa [hadd 0] at h
      have c1 : W.cell? ⟨b, off + j * 5 + 1, none⟩ = some v1 := by have h : W.cell? ((⟨b, off, none⟩ : Addr).add (j * 5 + 1)) = some v1 := c1; rwa [hadd 1] at h
      have c2 : W.cell? ⟨b, off + j * 5 + 2, none⟩ = some v2 := by have h : W.cell? ((⟨b, off, none⟩ : Addr).add (j * 5 + 2)) = some v2 := c2; rwa [hadd 2] at h
      have c3 : W.cell? ⟨b, off + j * 5 + 3, none⟩ = some v3 := by have h : W.cell? ((⟨b, off, none⟩ : Addr).add (j * 5 + 3)) = some v3 := c3; rwa [hadd 3] at h
      have c4 : W.cell? ⟨b, off + j * 5 + 4, none⟩ = some v4 := by have h : W.cell? ((⟨b, off, none⟩ : Addr).add (j * 5 + 4)) = some v4 := c4; rwa [hadd 4] at h
      obtain ⟨kind, e0, _, w0⟩ := DataW.trod_int Try.underlying3 t0
      obtain ⟨name, e1, _, w1⟩ := DataW.trod_string Try.underlying9 t1
      obtain ⟨text, e2, _, w2⟩ := DataW.trod_string Try.underlying9 t2
      obtain ⟨nn, e3, _, w3⟩ := DataW.trod_int Try.underlying3 t3
      obtain ⟨fa, fn, fc, fl, rfl, w4⟩ := intsAt_one t4
      simp only [List.cons.injEq, and_true] at e0 e1 e2 e3
      subst e0 e1 e2 e3
      unfold maxLen at w1 w2
      exact ⟨⟨kind, name, text, nn, fl⟩, fa, fn, fc, c0, c1, c2, c3, c4, w4, (Lit.wf_int_iff _ _).1 w0, (Lit.wf_int_iff _ _).1 w3, w1, w2⟩
end Go.Proofs.Ythjomknhbfplnaa
