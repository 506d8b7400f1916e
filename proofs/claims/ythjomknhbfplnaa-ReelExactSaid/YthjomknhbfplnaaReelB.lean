/- The reel's disk in memory, whole: its map, its tapes; what one change leaves of it. -/
import Derived.Test.YthjomknhbfplnaaReelA
namespace Go.Proofs.Ythjomknhbfplnaa
open Go.RowKit Reel
set_option linter.unusedVariables false

/-- a tape's place: its block, its bytes' slice, what it reads as -/
structure RM where
  b : Nat
  v : Value
  t : Spool
def tp (r : RM) : Option Addr := some ⟨r.b, 0, none⟩
def TapeIs (w : World) (r : RM) : Prop := Blk w r.b 63 #[r.v, .int .i64 r.t.safe] ∧ w.ownsRow 0 5 1 r.v r.t.bytes.length (bvals r.t.bytes)
def Apart (a c : RM) : Prop := a.b ≠ c.b ∧ ∀ k, a.v.ownBlock = some k → c.v.ownBlock ≠ some k
theorem Apart.symm {a c : RM} (h : Apart a c) : Apart c a := ⟨fun e => h.1 e.symm, fun k hk e => h.2 k e hk⟩
def Tapes (w : World) (R : List RM) : Prop := (∀ r ∈ R, TapeIs w r) ∧ R.Pairwise Apart
def TF (r : RM) : Nat → Prop := fun k => k = r.b ∨ r.v.ownBlock = some k
section
variable {w w' : World} {R : List RM} {r r' : RM} {F : Nat → Prop} {i : Nat}
theorem TapeIs.only (h : TapeIs w r) (ho : Only F w w') (hf : ∀ k, TF r k → ¬ F k) : TapeIs w' r :=
  ⟨h.1.only ho (hf _ (.inl rfl)), own_only h.2 ho (fun k hk => hf k (.inr hk))⟩
theorem TapeIs.lt (h : TapeIs w r) : ∀ k, TF r k → k < w.heap.size := by
  rintro k (rfl | hk)
  · exact h.1.lt
  · exact own_lt h.2 hk
theorem TapeIs.v_ne_b (h : TapeIs w r) (h' : TapeIs w r') : r.v.ownBlock ≠ some r'.b := own_blk_ne h.2 h'.1 (by decide)
theorem Tapes.only (h : Tapes w R) (ho : Only F w w') (hf : ∀ r ∈ R, ∀ k, TF r k → ¬ F k) : Tapes w' R := ⟨fun r hr => (h.1 r hr).only ho (hf r hr), h.2⟩
theorem apart_tf (h : Apart r r') (h1 : TapeIs w r) (h2 : TapeIs w r') : ∀ k, TF r k → ¬ TF r' k := by
  rintro k (rfl | hk) (e | e)
  · exact h.1 e
  · exact h2.v_ne_b h1 e
  · subst e; exact h1.v_ne_b h2 hk
  · exact h.2 k hk e
theorem Tapes.apart (h : Tapes w R) {j : Nat} (hi : R[i]? = some r) (hj : R[j]? = some r') (hne : i ≠ j) : Apart r r' := by
  obtain ⟨i1, rfl⟩ := List.getElem?_eq_some_iff.1 hi
  obtain ⟨j1, rfl⟩ := List.getElem?_eq_some_iff.1 hj
  rcases Nat.lt_or_gt_of_ne hne with hlt | hlt
  · exact List.pairwise_iff_getElem.1 h.2 i j i1 j1 hlt
  · exact (List.pairwise_iff_getElem.1 h.2 j i j1 i1 hlt).symm
theorem Tapes.set (h : Tapes w R) (hi : R[i]? = some r) (ho : Only (TF r) w w') (hr : TapeIs w' r') (hb : r'.b = r.b) (hv : r'.v.ownBlock = r.v.ownBlock ∨ ∃ g, w.heap.size ≤ g ∧ r'.v.ownBlock = some g) : Tapes w' (R.set i r') := by
  have hi' := (List.getElem?_eq_some_iff.1 hi).1
  have hm : r ∈ R := by obtain ⟨_, rfl⟩ := List.getElem?_eq_some_iff.1 hi; exact List.getElem_mem _
  have far : ∀ (j : Nat) x, j ≠ i → R[j]? = some x → TapeIs w' x ∧ Apart r' x := by
    intro j x hj hx
    have hxm : x ∈ R := by obtain ⟨_, rfl⟩ := List.getElem?_eq_some_iff.1 hx; exact List.getElem_mem _
    have ha := h.apart hi hx (fun e => hj e.symm)
    refine ⟨(h.1 x hxm).only ho (apart_tf ha.symm (h.1 x hxm) (h.1 r hm)), by rw [hb]; exact ha.1, ?_⟩
    intro k hk
    rcases hv with hv | ⟨g, hg, hv⟩
    · rw [hv] at hk; exact ha.2 k hk
    · intro e
      have := (h.1 x hxm).lt k (.inr e)
      rw [hv] at hk; injection hk with hk; omega
  have hget : ∀ j (x : RM), (R.set i r')[j]? = some x → (j = i ∧ x = r') ∨ (j ≠ i ∧ R[j]? = some x) := by
    intro j x hx
    rw [List.getElem?_set] at hx
    split at hx
    · rename_i e
      left
      subst e
      exact ⟨rfl, by injection hx with hx; exact hx.symm⟩
    · rename_i e; exact .inr ⟨fun e' => e e'.symm, hx⟩
  refine ⟨fun x hx => ?_, ?_⟩
  · obtain ⟨j, hj⟩ := List.getElem?_of_mem hx
    rcases hget j x hj with ⟨_, rfl⟩ | ⟨hne, hx'⟩
    · exact hr
    · exact (far j x hne hx').1
  · refine List.pairwise_iff_getElem.2 fun j k hj hk hlt => ?_
    have ej := List.getElem?_eq_getElem hj
    have ek := List.getElem?_eq_getElem hk
    rcases hget j _ ej with ⟨rfl, e1⟩ | ⟨hne, hx'⟩
    · rcases hget k _ ek with ⟨rfl, e2⟩ | ⟨hne', hx''⟩
      · omega
      · rw [e1]; exact (far k _ hne' hx'').2
    · rcases hget k _ ek with ⟨rfl, e2⟩ | ⟨hne', hx''⟩
      · rw [e2]; exact (far j _ hne hx').2.symm
      · exact h.apart hx' hx'' (by omega)
theorem Tapes.ins (h : Tapes w R) (ho : Only NoF w w') (hr : TapeIs w' r) (hn : ∀ k, TF r k → w.heap.size ≤ k) (i : Nat) : Tapes w' (R.take i ++ r :: R.drop i) := by
  have h' : Tapes w' R := h.only ho (fun _ _ _ _ e => e)
  have ha : ∀ x ∈ R, Apart r x := fun x hx => by
    refine ⟨fun e => ?_, fun k hk e => ?_⟩
    · have := hn r.b (.inl rfl); have := (h.1 x hx).lt x.b (.inl rfl); omega
    · have := hn k (.inr hk); have := (h.1 x hx).lt k (.inr e); omega
  refine ⟨fun x hx => ?_, ?_⟩
  · rcases List.mem_append.1 hx with hx | hx
    · exact h'.1 x (List.mem_of_mem_take hx)
    · rcases List.mem_cons.1 hx with rfl | hx
      · exact hr
      · exact h'.1 x (List.mem_of_mem_drop hx)
  · have h0 : (R.take i ++ R.drop i).Pairwise Apart := by rw [List.take_append_drop]; exact h.2
    obtain ⟨h1, h2, h3⟩ := List.pairwise_append.1 h0
    refine List.pairwise_append.2 ⟨h1, List.pairwise_cons.2 ⟨fun x hx => ha x (List.mem_of_mem_drop hx), h2⟩, fun a hA b hB => ?_⟩
    rcases List.mem_cons.1 hB with rfl | hB
    · exact (ha a (List.mem_of_mem_take hA)).symm
    · exact h3 a hA b hB
theorem Tapes.sub {R' : List RM} (h : Tapes w R) (hs : R'.Sublist R) : Tapes w R' := ⟨fun x hx => h.1 x (hs.subset hx), h.2.sublist hs⟩
theorem del_sub (R : List RM) (i : Nat) : (R.take i ++ R.drop (i + 1)).Sublist R := by
  conv => rhs; rw [← List.take_append_drop i R]
  exact List.Sublist.append (List.Sublist.refl _) (by rw [← List.drop_drop]; exact List.drop_sublist _ _)
end

/-- the disk's memory -/
structure DMem (w : World) (p m : Nat) (ks vs : Value) (R : List RM) (S : St) : Prop where
  blk : DBlk w p m S
  map : MapIsPtr w m ks vs S.l (R.map tp)
  tapes : Tapes w R
  ts : S.ts = R.map (·.t)
def DF (p m : Nat) (ks vs : Value) (R : List RM) : Nat → Prop := fun k => k = p ∨ MapF m ks vs k ∨ ∃ r ∈ R, TF r k
section
variable {w w' : World} {p m : Nat} {ks vs ks' vs' : Value} {R R' : List RM} {S S' : St} {F : Nat → Prop} {r r' : RM} {i : Nat}
theorem DMem.p_ne_m (h : DMem w p m ks vs R S) : p ≠ m := Blk.ne h.blk h.map.1 (by decide)
theorem DMem.p_map (h : DMem w p m ks vs R S) : ¬ MapF m ks vs p := by
  rintro (e | e | e)
  · exact h.p_ne_m e
  · exact own_blk_ne h.map.2.1 h.blk (by decide) e
  · exact own_blk_ne h.map.2.2.1 h.blk (by decide) e
theorem DMem.p_tape (h : DMem w p m ks vs R S) (hr : r ∈ R) : ¬ TF r p := by
  rintro (e | e)
  · exact Blk.ne h.blk (h.tapes.1 r hr).1 (by decide) e
  · exact own_blk_ne (h.tapes.1 r hr).2 h.blk (by decide) e
theorem DMem.map_tape (h : DMem w p m ks vs R S) (hr : r ∈ R) : ∀ k, TF r k → ¬ MapF m ks vs k := by
  have ht := h.tapes.1 r hr
  rintro k (rfl | hk) (e | e | e)
  · exact Blk.ne ht.1 h.map.1 (by decide) e
  · exact own_blk_ne h.map.2.1 ht.1 (by decide) e
  · exact own_blk_ne h.map.2.2.1 ht.1 (by decide) e
  · subst e; exact own_blk_ne ht.2 h.map.1 (by decide) hk
  · exact own_ne ht.2 h.map.2.1 (by decide) hk e
  · exact own_ne ht.2 h.map.2.2.1 (by decide) hk e
theorem MapIsPtr.only {l : List ByteArray} {ps : List (Option Addr)} (h : MapIsPtr w m ks vs l ps) (ho : Only F w w') (hf : ∀ k, MapF m ks vs k → ¬ F k) : MapIsPtr w' m ks vs l ps :=
  ⟨h.1.only ho (hf _ (.inl rfl)), own_only h.2.1 ho (fun k hk => hf k (.inr (.inl hk))), own_only h.2.2.1 ho (fun k hk => hf k (.inr (.inr hk))), h.2.2.2⟩
theorem DMem.only (h : DMem w p m ks vs R S) (ho : Only F w w') (hf : ∀ k, DF p m ks vs R k → ¬ F k) : DMem w' p m ks vs R S :=
  ⟨Blk.only h.blk ho (hf p (.inl rfl)), h.map.only ho (fun k hk => hf k (.inr (.inl hk))), h.tapes.only ho (fun r hr k hk => hf k (.inr (.inr ⟨r, hr, hk⟩))), h.ts⟩
theorem DMem.lt (h : DMem w p m ks vs R S) : ∀ k, DF p m ks vs R k → k < w.heap.size := by
  rintro k (rfl | (rfl | hk | hk) | ⟨r, hr, hk⟩)
  · exact Blk.lt h.blk
  · exact h.map.1.lt
  · exact own_lt h.map.2.1 hk
  · exact own_lt h.map.2.2.1 hk
  · exact (h.tapes.1 r hr).lt k hk
/-- its own cells alone are written -/
theorem DMem.own (h : DMem w p m ks vs R S) (ho : Only (· = p) w w') (hb : DBlk w' p m S') (hl : S'.l = S.l) (ht : S'.ts = S.ts) : DMem w' p m ks vs R S' :=
  ⟨hb, by rw [hl]; exact h.map.only ho (fun k hk e => by subst e; exact h.p_map hk), h.tapes.only ho (fun r hr k hk e => by subst e; exact h.p_tape hr hk), by rw [ht]; exact h.ts⟩
/-- one tape is written -/
theorem DMem.tape (h : DMem w p m ks vs R S) (hi : R[i]? = some r) (ho : Only (TF r) w w') (hr : TapeIs w' r') (hb : r'.b = r.b) (hv : r'.v.ownBlock = r.v.ownBlock ∨ ∃ g, w.heap.size ≤ g ∧ r'.v.ownBlock = some g) :
    DMem w' p m ks vs (R.set i r') { S with ts := S.ts.set i r'.t } := by
  have hm : r ∈ R := by obtain ⟨_, rfl⟩ := List.getElem?_eq_some_iff.1 hi; exact List.getElem_mem _
  refine ⟨Blk.only h.blk ho (h.p_tape hm), ?_, h.tapes.set hi ho hr hb hv, by rw [List.map_set]; show S.ts.set i r'.t = _; rw [h.ts]⟩
  have e : (R.set i r').map tp = R.map tp := by
    rw [List.map_set]
    apply List.ext_getElem?
    intro j
    rw [List.getElem?_set]
    split
    · rename_i e; subst e
      rw [List.getElem?_map, hi]
      simp [tp, hb, (List.getElem?_eq_some_iff.1 hi).1]
    · rfl
  show MapIsPtr w' m ks vs S.l _
  rw [e]
  exact h.map.only ho (fun k hk e => h.map_tape hm k e hk)
end
end Go.Proofs.Ythjomknhbfplnaa
