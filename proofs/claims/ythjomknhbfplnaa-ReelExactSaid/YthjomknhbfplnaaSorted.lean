/- Texts in rising order: where one stands. No program. -/
import Derived.Test.YthjomknhbfplnaaBase
namespace Go.Proofs.Ythjomknhbfplnaa
open Go.RowKit
set_option linter.unusedVariables false

def lt' (a b : ByteArray) : Bool := Op.bytesLess a.toList b.toList
theorem bl_irr : ∀ a : List UInt8, Op.bytesLess a a = false
  | [] => rfl
  | c :: a => by unfold Op.bytesLess; simp [bl_irr a]
theorem bl_trans : ∀ a b c : List UInt8, Op.bytesLess a b = true → Op.bytesLess b c = true → Op.bytesLess a c = true
  | [], [], _, h, _ => by simp [Op.bytesLess] at h
  | _ :: _, [], _, h, _ => by simp [Op.bytesLess] at h
  | _, _ :: _, [], _, h => by simp [Op.bytesLess] at h
  | [], _ :: _, _ :: _, _, _ => by simp [Op.bytesLess]
  | x :: a, y :: b, z :: c, h1, h2 => by
    unfold Op.bytesLess at h1 h2 ⊢
    simp only [Bool.or_eq_true, decide_eq_true_eq, Bool.and_eq_true, beq_iff_eq] at h1 h2 ⊢
    rcases h1 with h1 | ⟨rfl, h1⟩
    · rcases h2 with h2 | ⟨rfl, h2⟩
      · exact .inl (UInt8.lt_trans h1 h2)
      · exact .inl h1
    · rcases h2 with h2 | ⟨rfl, h2⟩
      · exact .inl h2
      · exact .inr ⟨rfl, bl_trans a b c h1 h2⟩
theorem bl_tri : ∀ a b : List UInt8, Op.bytesLess a b = false → Op.bytesLess b a = false → a = b
  | [], [], _, _ => rfl
  | [], _ :: _, h, _ => by simp [Op.bytesLess] at h
  | _ :: _, [], _, h => by simp [Op.bytesLess] at h
  | x :: a, y :: b, h1, h2 => by
    unfold Op.bytesLess at h1 h2
    simp only [Bool.or_eq_false_iff, decide_eq_false_iff_not, Bool.and_eq_false_iff, beq_eq_false_iff_ne] at h1 h2
    have e : x = y := by
      apply UInt8.toNat_inj.1
      have := h1.1; have := h2.1
      rw [UInt8.lt_iff_toNat_lt] at *
      omega
    subst e
    rw [bl_tri a b (h1.2.resolve_left (fun h => h rfl)) (h2.2.resolve_left (fun h => h rfl))]
theorem lt_irr (a : ByteArray) : lt' a a = false := bl_irr _
theorem lt_trans {a b c : ByteArray} (h1 : lt' a b = true) (h2 : lt' b c = true) : lt' a c = true := bl_trans _ _ _ h1 h2
theorem lt_tri {a b : ByteArray} (h1 : lt' a b = false) (h2 : lt' b a = false) : a = b := by
  have := bl_tri _ _ h1 h2
  rw [ba_toList, ba_toList] at this
  exact ba_ext this
theorem lt_asymm {a b : ByteArray} (h : lt' a b = true) : lt' b a = false := by
  cases h2 : lt' b a
  · rfl
  · have := lt_trans h h2; rw [lt_irr] at this; cases this

/-- in rising order, each once -/
def Rising (l : List ByteArray) : Prop := l.Pairwise (fun a b => lt' a b = true)
def posOf : List ByteArray → ByteArray → Nat
  | [], _ => 0
  | y :: r, x => if lt' y x = true then posOf r x + 1 else 0
theorem posOf_le : ∀ (l : List ByteArray) (x : ByteArray), posOf l x ≤ l.length
  | [], _ => Nat.le_refl _
  | y :: r, x => by unfold posOf; split <;> simp [posOf_le r x]
theorem posOf_at : ∀ {l : List ByteArray}, Rising l → ∀ (x : ByteArray) (t : Nat), t < l.length → lt' (l.getD t ByteArray.empty) x = decide (t < posOf l x)
  | [], _, _, t, h => absurd h (Nat.not_lt_zero _)
  | y :: r, hr, x, t, h => by
    obtain ⟨h1, h2⟩ := List.pairwise_cons.1 hr
    unfold posOf
    by_cases hy : lt' y x = true
    · rw [if_pos hy]
      cases t with
      | zero => simpa using hy
      | succ t => simp only [List.getD_cons_succ, posOf_at h2 x t (by simpa using h)]; simp
    · rw [if_neg hy]
      have hy' : lt' y x = false := by simpa using hy
      cases t with
      | zero => simpa using hy'
      | succ t =>
        simp only [List.getD_cons_succ, Nat.not_lt_zero, decide_false]
        cases h3 : lt' (r.getD t ByteArray.empty) x
        · rfl
        · have hm : r.getD t ByteArray.empty ∈ r := by
            rw [List.getD_eq_getElem?_getD, List.getElem?_eq_getElem (by simpa using h)]; exact List.getElem_mem _
          have := lt_trans (h1 _ hm) h3
          rw [this] at hy'; cases hy'
theorem posOf_mem : ∀ {l : List ByteArray}, Rising l → ∀ x : ByteArray, (posOf l x < l.length ∧ l.getD (posOf l x) ByteArray.empty = x) ↔ x ∈ l
  | [], _, _ => by simp [posOf]
  | y :: r, hr, x => by
    obtain ⟨h1, h2⟩ := List.pairwise_cons.1 hr
    have ih := posOf_mem h2 x
    unfold posOf
    by_cases hy : lt' y x = true
    · rw [if_pos hy]
      simp only [List.length_cons, Nat.add_lt_add_iff_right, List.getD_cons_succ, ih, List.mem_cons]
      constructor
      · exact .inr
      · rintro (rfl | h)
        · rw [lt_irr] at hy; cases hy
        · exact h
    · rw [if_neg hy]
      have hy' : lt' y x = false := by simpa using hy
      simp only [List.length_cons, Nat.zero_lt_succ, List.getD_cons_zero, true_and, List.mem_cons]
      constructor
      · intro e; exact .inl e.symm
      · rintro (e | h)
        · exact e.symm
        · have := h1 x h; rw [this] at hy'; cases hy'
def hasN (l : List ByteArray) (x : ByteArray) : Bool := decide (∃ o ∈ l, o = x)
theorem hasN_iff {l : List ByteArray} {x : ByteArray} : hasN l x = true ↔ x ∈ l := by unfold hasN; rw [decide_eq_true_eq]; simp
theorem hasN_no {l : List ByteArray} {x : ByteArray} : hasN l x = false ↔ x ∉ l := by rw [← hasN_iff]; simp
def putN (l : List ByteArray) (x : ByteArray) : List ByteArray := if hasN l x = true then l else l.take (posOf l x) ++ x :: l.drop (posOf l x)
def delN (l : List ByteArray) (x : ByteArray) : List ByteArray := if hasN l x = true then l.take (posOf l x) ++ l.drop (posOf l x + 1) else l
theorem take_lt {l : List ByteArray} (hr : Rising l) (x : ByteArray) : ∀ y ∈ l.take (posOf l x), lt' y x = true := by
  intro y hy
  obtain ⟨j, hj, rfl⟩ := List.getElem_of_mem hy
  rw [List.length_take] at hj
  have := posOf_at hr x j (by omega)
  rw [List.getD_eq_getElem?_getD, List.getElem?_eq_getElem (by omega)] at this
  simp only [Option.getD_some] at this
  rw [List.getElem_take, this]; exact decide_eq_true (by omega)
theorem drop_gt {l : List ByteArray} (hr : Rising l) {x : ByteArray} (hx : x ∉ l) : ∀ y ∈ l.drop (posOf l x), lt' x y = true := by
  intro y hy
  obtain ⟨j, hj, rfl⟩ := List.getElem_of_mem hy
  rw [List.length_drop] at hj
  have := posOf_at hr x (posOf l x + j) (by omega)
  rw [List.getD_eq_getElem?_getD, List.getElem?_eq_getElem (by omega)] at this
  simp only [Option.getD_some] at this
  rw [List.getElem_drop]
  cases h : lt' x l[posOf l x + j]
  · have e := lt_tri h (this.trans (decide_eq_false (by omega)))
    exact absurd (e ▸ List.getElem_mem _) hx
  · rfl
theorem putN_rising {l : List ByteArray} (hr : Rising l) (x : ByteArray) : Rising (putN l x) := by
  unfold putN
  split
  · exact hr
  · rename_i hx
    rw [hasN_iff] at hx
    have h0 : (l.take (posOf l x) ++ l.drop (posOf l x)).Pairwise (fun a b => lt' a b = true) := by rw [List.take_append_drop]; exact hr
    obtain ⟨h1, h2, h3⟩ := List.pairwise_append.1 h0
    refine List.pairwise_append.2 ⟨h1, List.pairwise_cons.2 ⟨drop_gt hr hx, h2⟩, ?_⟩
    intro a ha b hb
    rcases List.mem_cons.1 hb with rfl | hb
    · exact take_lt hr _ a ha
    · exact h3 a ha b hb
theorem delN_rising {l : List ByteArray} (hr : Rising l) (x : ByteArray) : Rising (delN l x) := by
  unfold delN
  split
  · have h0 : (l.take (posOf l x) ++ l.drop (posOf l x)).Pairwise (fun a b => lt' a b = true) := by rw [List.take_append_drop]; exact hr
    obtain ⟨h1, h2, h3⟩ := List.pairwise_append.1 h0
    have hs : (l.drop (posOf l x + 1)).Sublist (l.drop (posOf l x)) := by
      rw [← List.drop_drop]; exact List.drop_sublist _ _
    exact List.pairwise_append.2 ⟨h1, h2.sublist hs, fun a ha b hb => h3 a ha b (hs.subset hb)⟩
  · exact hr
theorem pos_bool {l : List ByteArray} (hr : Rising l) (x : ByteArray) : decide (posOf l x < l.length ∧ l.getD (posOf l x) ByteArray.empty = x) = hasN l x := by
  rw [Bool.eq_iff_iff, decide_eq_true_eq, hasN_iff]; exact posOf_mem hr x
end Go.Proofs.Ythjomknhbfplnaa
