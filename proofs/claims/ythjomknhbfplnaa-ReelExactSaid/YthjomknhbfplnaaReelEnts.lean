/- The reel's states as lists of names with their tapes: plain Lean. -/
import Derived.Test.YthjomknhbfplnaaReelOk
namespace Go.Proofs.Ythjomknhbfplnaa.Reel
open Go.RowKit
set_option linter.unusedVariables false

def St.ents (S : St) : List (ByteArray × Spool) := S.l.zip S.ts
theorem zip_set {α β : Type} : ∀ (l : List α) (r : List β) (i : Nat) (b : β) (h : i < l.length), l.zip (r.set i b) = (l.zip r).set i (l[i], b)
  | [], _, _, _, h => absurd h (Nat.not_lt_zero _)
  | _ :: _, [], i, _, _ => by cases i <;> rfl
  | a :: l, c :: r, 0, b, _ => rfl
  | a :: l, c :: r, i + 1, b, h => by simp [zip_set l r i b (by simpa using h)]
theorem zip_take {α β : Type} : ∀ (l : List α) (r : List β) (i : Nat), (l.take i).zip (r.take i) = (l.zip r).take i
  | [], r, i => by simp
  | a :: l, [], i => by simp
  | a :: l, c :: r, 0 => rfl
  | a :: l, c :: r, i + 1 => by simp [zip_take l r i]
theorem zip_drop {α β : Type} : ∀ (l : List α) (r : List β) (i : Nat), (l.drop i).zip (r.drop i) = (l.zip r).drop i
  | [], r, i => by simp
  | a :: l, [], i => by simp
  | a :: l, c :: r, 0 => rfl
  | a :: l, c :: r, i + 1 => by simp [zip_drop l r i]
section
variable {S : St} {x y : ByteArray} {t u : Spool}
theorem ents_len (h : S.Ok) : S.ents.length = S.l.length := by unfold St.ents; simp [h.len]
theorem ents_fst (h : S.Ok) : S.ents.map (·.1) = S.l := by unfold St.ents; rw [List.map_fst_zip]; exact Nat.le_of_eq h.len.symm
theorem ents_snd (h : S.Ok) : S.ents.map (·.2) = S.ts := by unfold St.ents; rw [List.map_snd_zip]; exact Nat.le_of_eq h.len
theorem has_ents (h : S.Ok) : hasN S.l x = true ↔ ∃ t, (x, t) ∈ S.ents := by
  rw [hasN_iff]
  conv => lhs; rw [← ents_fst h]
  rw [List.mem_map]
  constructor
  · rintro ⟨⟨a, b⟩, h1, rfl⟩; exact ⟨b, h1⟩
  · rintro ⟨b, h1⟩; exact ⟨_, h1, rfl⟩
theorem rising_inj {l : List ByteArray} (hr : Rising l) {i j : Nat} (hi : i < l.length) (hj : j < l.length) (h : l[i] = l[j]) : i = j := by
  rcases Nat.lt_trichotomy i j with hlt | heq | hlt
  · have := List.pairwise_iff_getElem.1 hr i j hi hj hlt; rw [h, lt_irr] at this; cases this
  · exact heq
  · have := List.pairwise_iff_getElem.1 hr j i hj hi hlt; rw [h, lt_irr] at this; cases this
theorem pos_get {l : List ByteArray} (hr : Rising l) (hx : hasN l x = true) : ∃ h : posOf l x < l.length, l[posOf l x] = x := by
  obtain ⟨h1, h2⟩ := (posOf_mem hr x).2 (hasN_iff.1 hx)
  refine ⟨h1, ?_⟩
  rwa [List.getD_eq_getElem?_getD, List.getElem?_eq_getElem h1] at h2
theorem ents_get (i : Nat) (hi : i < S.ents.length) : ∃ (h1 : i < S.l.length) (h2 : i < S.ts.length), S.ents[i] = (S.l[i], S.ts[i]) := by
  have hi' : i < (S.l.zip S.ts).length := hi
  have hl : i < S.l.length := by rw [List.length_zip] at hi'; omega
  have ht : i < S.ts.length := by rw [List.length_zip] at hi'; omega
  refine ⟨hl, ht, ?_⟩
  show (S.l.zip S.ts)[i]'hi' = _
  rw [List.getElem_zip]
theorem at_iff (h : S.Ok) : at_ S y = some t ↔ (y, t) ∈ S.ents := by
  constructor
  · intro ha
    obtain ⟨h1, h2⟩ := at_some ha
    obtain ⟨h3, h4⟩ := pos_get h.rising h1
    obtain ⟨h5, h6⟩ := List.getElem?_eq_some_iff.1 h2
    have : S.ents[posOf S.l y]'(by rw [ents_len h]; exact h3) = (y, t) := by obtain ⟨_, _, e⟩ := ents_get (S := S) (posOf S.l y) (by rw [ents_len h]; exact h3); rw [e, h4, h6]
    rw [← this]; exact List.getElem_mem _
  · intro hm
    obtain ⟨i, hi, he⟩ := List.getElem_of_mem hm
    have hil := hi
    rw [ents_len h] at hil
    obtain ⟨_, _, e0⟩ := ents_get i hi
    rw [e0] at he
    injection he with e1 e2
    have hx : hasN S.l y = true := by rw [hasN_iff, ← e1]; exact List.getElem_mem _
    obtain ⟨h3, h4⟩ := pos_get h.rising hx
    have : posOf S.l y = i := rising_inj h.rising h3 hil (by rw [h4, e1])
    unfold at_
    rw [if_pos hx, this, List.getElem?_eq_getElem (by rw [h.len]; exact hil), e2]
theorem at_ext {S' : St} (h : S.Ok) (h' : S'.Ok) (x : ByteArray) (he : ∀ t, (x, t) ∈ S.ents ↔ (x, t) ∈ S'.ents) : at_ S x = at_ S' x := by
  cases ha : at_ S x with
  | some t => exact ((at_iff h').2 ((he t).1 ((at_iff h).1 ha))).symm
  | none =>
    cases hb : at_ S' x with
    | none => rfl
    | some t => rw [(at_iff h).2 ((he t).2 ((at_iff h').1 hb))] at ha; cases ha
theorem ents_put_has (h : S.Ok) (hx : hasN S.l x = true) : (putT S x t).ents = S.ents.set (posOf S.l x) (x, t) := by
  obtain ⟨h3, h4⟩ := pos_get h.rising hx
  rw [putT_has hx]
  unfold St.ents
  show S.l.zip (S.ts.set _ t) = _
  rw [zip_set _ _ _ _ h3, h4]
theorem ents_put_no (h : S.Ok) (hx : hasN S.l x = false) : (putT S x t).ents = S.ents.take (posOf S.l x) ++ (x, t) :: S.ents.drop (posOf S.l x) := by
  rw [putT_no hx]
  unfold St.ents
  show (S.l.take _ ++ x :: S.l.drop _).zip (S.ts.take _ ++ t :: S.ts.drop _) = _
  rw [List.zip_append (by have := h.len; simp [this]), List.zip_cons_cons, zip_take, zip_drop]
theorem ents_del (h : S.Ok) (hx : hasN S.l x = true) : (delT S x).ents = S.ents.take (posOf S.l x) ++ S.ents.drop (posOf S.l x + 1) := by
  rw [delT_has hx]
  unfold St.ents
  show (S.l.take _ ++ S.l.drop _).zip (S.ts.take _ ++ S.ts.drop _) = _
  rw [List.zip_append (by have := h.len; simp [this]), zip_take, zip_drop]
theorem del_mem (h : S.Ok) (hx : hasN S.l x = true) : (y, t) ∈ (delT S x).ents ↔ (y, t) ∈ S.ents ∧ y ≠ x := by
  rw [ents_del h hx]
  obtain ⟨h3, h4⟩ := pos_get h.rising hx
  have hl := ents_len h
  have he : S.ents = S.ents.take (posOf S.l x) ++ S.ents[posOf S.l x]'(by omega) :: S.ents.drop (posOf S.l x + 1) := by
    rw [← List.drop_eq_getElem_cons, List.take_append_drop]
  have hg : (S.ents[posOf S.l x]'(by omega)).1 = x := by obtain ⟨_, _, e⟩ := ents_get (S := S) (posOf S.l x) (by omega); rw [e]; exact h4
  have idx : ∀ (j : Nat) (hj : j < S.ents.length), (S.ents[j]).1 = x → j = posOf S.l x := fun j hj e => by
    refine rising_inj h.rising (by omega) h3 ?_
    obtain ⟨_, _, e0⟩ := ents_get j hj
    rw [h4, ← e, e0]
  constructor
  · intro hm
    refine ⟨by
      rw [he]
      rcases List.mem_append.1 hm with hm | hm
      · exact List.mem_append.2 (.inl hm)
      · exact List.mem_append.2 (.inr (List.mem_cons_of_mem _ hm)), ?_⟩
    rintro rfl
    rcases List.mem_append.1 hm with hm | hm
    · obtain ⟨j, hj, e⟩ := List.getElem_of_mem hm
      rw [List.length_take] at hj
      rw [List.getElem_take] at e
      have := idx j (by omega) (by rw [e])
      omega
    · obtain ⟨j, hj, e⟩ := List.getElem_of_mem hm
      rw [List.length_drop] at hj
      rw [List.getElem_drop] at e
      have := idx (posOf S.l y + 1 + j) (by omega) (by rw [e])
      omega
  · rintro ⟨hm, hne⟩
    rw [he] at hm
    rcases List.mem_append.1 hm with hm | hm
    · exact List.mem_append.2 (.inl hm)
    · rcases List.mem_cons.1 hm with hm | hm
      · rw [← hm] at hg; exact absurd hg hne
      · exact List.mem_append.2 (.inr hm)
theorem put_mem (h : S.Ok) : (y, u) ∈ (putT S x t).ents ↔ (y = x ∧ u = t) ∨ (y ≠ x ∧ (y, u) ∈ S.ents) := by
  cases hx : hasN S.l x
  · rw [ents_put_no h hx]
    have he : (y, u) ∈ S.ents ↔ (y, u) ∈ S.ents.take (posOf S.l x) ∨ (y, u) ∈ S.ents.drop (posOf S.l x) := by
      rw [← List.mem_append, List.take_append_drop]
    rw [List.mem_append, List.mem_cons, he]
    constructor
    · rintro (hm | hm | hm)
      · refine .inr ⟨?_, .inl hm⟩
        rintro rfl; rw [(has_ents h).2 ⟨_, List.mem_of_mem_take hm⟩] at hx; cases hx
      · injection hm with e1 e2; exact .inl ⟨e1, e2⟩
      · refine .inr ⟨?_, .inr hm⟩
        rintro rfl; rw [(has_ents h).2 ⟨_, List.mem_of_mem_drop hm⟩] at hx; cases hx
    · rintro (⟨rfl, rfl⟩ | ⟨_, hm | hm⟩)
      · exact .inr (.inl rfl)
      · exact .inl hm
      · exact .inr (.inr hm)
  · rw [ents_put_has h hx]
    obtain ⟨h3, h4⟩ := pos_get h.rising hx
    have hl := ents_len h
    rw [List.mem_iff_getElem]
    constructor
    · rintro ⟨j, hj0, e⟩
      have hj : j < S.ents.length := by rwa [List.length_set] at hj0
      rw [List.getElem_set] at e
      split at e
      · injection e with e1 e2; exact .inl ⟨e1.symm, e2.symm⟩
      · rename_i hne
        refine .inr ⟨?_, by rw [← e]; exact List.getElem_mem _⟩
        rintro rfl
        apply hne
        refine rising_inj h.rising h3 (by omega) ?_
        rw [h4]
        obtain ⟨_, _, e0⟩ := ents_get j hj
        rw [e0] at e
        injection e with e1 e2; exact e1.symm
    · rintro (⟨rfl, rfl⟩ | ⟨hne, hm⟩)
      · exact ⟨posOf S.l y, by rw [List.length_set]; omega, by rw [List.getElem_set, if_pos rfl]⟩
      · obtain ⟨j, hj, e⟩ := List.getElem_of_mem hm
        refine ⟨j, by rw [List.length_set]; exact hj, ?_⟩
        rw [List.getElem_set, if_neg, e]
        rintro rfl
        obtain ⟨_, _, e0⟩ := ents_get _ hj
        rw [e0] at e
        injection e with e1 e2
        exact hne (e1.symm.trans h4)
/-- what else stands there stays -/
theorem at_del (h : S.Ok) (hx : at_ S x = some u) (hne : y ≠ x) : at_ (delT S x) y = at_ S y := by
  have hx' := (at_some hx).1
  have hd : St.Ok { delT S x with used := S.used - u.bytes.length } := h.del hx _ (by have := size_mem (at_mem hx); rw [← h.used] at this; omega)
  have := at_ext (S := { delT S x with used := S.used - u.bytes.length }) hd h y (fun t => (del_mem h hx').trans ⟨fun h => h.1, fun h => ⟨h, hne⟩⟩)
  exact this
end
end Go.Proofs.Ythjomknhbfplnaa.Reel
