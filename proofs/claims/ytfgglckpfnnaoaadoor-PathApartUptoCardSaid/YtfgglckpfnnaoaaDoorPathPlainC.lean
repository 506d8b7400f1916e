/- Plain laws of layer 5 without the reference: there and back, the order is one, what lies apart, folders. -/
import Derived.Test.YtfgglckpfnnaoaaDoorPathPlainB
import Derived.Test.YtfgglckpfnnaoaaDoorPathSplit
namespace Go.Proofs.YtfgglckpfnnaoaaDoor.Pap

theorem check_pieces {s : List UInt8} (h : splitE s = 0) : pieces s ≠ [] ∧ (∀ x ∈ pieces s, goodL x = true) ∧ (pieces s).length ≤ 64 := checkE_ok.1 h
theorem split_join {l : List (List UInt8)} (h : checkE l = 0) : pieces (joinL l) = l ∧ splitE (joinL l) = 0 := by
  obtain ⟨h1, h2, h3⟩ := checkE_ok.1 h
  have e := pieces_join l h1 (fun x hx => good_free (h2 x hx))
  exact ⟨e, by unfold splitE; rw [e]; exact h⟩
theorem check_take {l : List (List UInt8)} (h : checkE l = 0) {k : Nat} (hk : 1 ≤ k) : checkE (l.take k) = 0 := by
  obtain ⟨h1, h2, h3⟩ := checkE_ok.1 h
  refine checkE_ok.2 ⟨?_, fun x hx => h2 x (List.mem_of_mem_take hx), by rw [List.length_take]; omega⟩
  intro e
  have h4 := congrArg List.length e
  rw [List.length_take] at h4
  have := List.length_pos_iff.2 h1
  simp only [List.length_nil] at h4; omega

/-! the order is one -/
theorem cmp_le_trans (a b c : List (List UInt8)) (h1 : cmpP a b ≤ 0) (h2 : cmpP b c ≤ 0) : cmpP a c ≤ 0 ∧ (cmpP a c = 0 → cmpP a b = 0 ∧ cmpP b c = 0) := by
  have r1 := cmpP_range a b
  have r2 := cmpP_range b c
  rcases r1 with e1 | e1 | e1
  · rcases r2 with e2 | e2 | e2
    · have := cmpP_trans a b c e1 e2; omega
    · have := cmpP_zero b c e2; subst this; omega
    · omega
  · have := cmpP_zero a b e1; subst this
    constructor
    · exact h2
    · intro h; exact ⟨e1, h⟩
  · omega
theorem withinR_ok {f p : List UInt8} (hf : splitE f = 0) (hp : splitE p = 0) : withinR f p = decide ((pieces f).length < (pieces p).length ∧ pieces f = (pieces p).take (pieces f).length) := by
  unfold withinR; simp [hf, hp]
theorem within_cmp {f p : List UInt8} (hf : splitE f = 0) (hp : splitE p = 0) (h : withinR f p = true) : cmpP (pieces f) (pieces p) = -1 := by
  rw [withinR_ok hf hp, decide_eq_true_eq] at h
  exact cmpP_prefix _ _ h.1 h.2
theorem within_between {a b c : List UInt8} (ha : splitE a = 0) (hb : splitE b = 0) (hc : splitE c = 0) (h : withinR a c = true) (h1 : cmpP (pieces a) (pieces b) ≤ 0) (h2 : cmpP (pieces b) (pieces c) ≤ 0) : cmpP (pieces a) (pieces b) = 0 ∨ withinR a b = true := by
  rw [withinR_ok ha hc, decide_eq_true_eq] at h
  have hx := cmpP_between _ _ _ h.1 h.2 h1 h2
  rcases Nat.lt_or_ge (pieces a).length (pieces b).length with hl | hl
  · right; rw [withinR_ok ha hb, decide_eq_true_eq]; exact ⟨hl, hx⟩
  · left
    rw [List.take_of_length_le hl] at hx
    rw [hx]; exact cmpP_self _
/-- all that PathOrder asks of the numbers -/
theorem order_one {a b c : List UInt8} (ha : splitE a = 0) (hb : splitE b = 0) (hc : splitE c = 0) :
    compareR b a = - compareR a b ∧ (compareR a b = 0 ↔ a = b) ∧ (compareR a b ≤ 0 → compareR b c ≤ 0 → compareR a c ≤ 0 ∧ (compareR a c = 0 → compareR a b = 0 ∧ compareR b c = 0)) ∧
    (withinR a b = true → compareR a b = -1) ∧ (withinR a c = true → compareR a b ≤ 0 → compareR b c ≤ 0 → a ≠ b → withinR a b = true) := by
  have e1 : compareR a b = cmpP (pieces a) (pieces b) := by unfold compareR; rw [if_pos ⟨ha, hb⟩]
  have e2 : compareR b a = cmpP (pieces b) (pieces a) := by unfold compareR; rw [if_pos ⟨hb, ha⟩]
  have e3 : compareR b c = cmpP (pieces b) (pieces c) := by unfold compareR; rw [if_pos ⟨hb, hc⟩]
  have e4 : compareR a c = cmpP (pieces a) (pieces c) := by unfold compareR; rw [if_pos ⟨ha, hc⟩]
  have z : cmpP (pieces a) (pieces b) = 0 ↔ a = b := ⟨fun h => pieces_inj (cmpP_zero _ _ h), fun h => by rw [h]; exact cmpP_self _⟩
  rw [e1, e2, e3, e4]
  refine ⟨cmpP_neg _ _, z, cmp_le_trans _ _ _, within_cmp ha hb, fun h h1 h2 hne => ?_⟩
  rcases within_between ha hb hc h h1 h2 with h3 | h3
  · exact absurd (z.1 h3) hne
  · exact h3

/-! folders -/
theorem within_take {P : List (List UInt8)} (hP : checkE P = 0) {k : Nat} (h1 : 1 ≤ k) (h2 : k ≤ P.length) :
    withinR (joinL (P.take k)) (joinL P) = decide (k < P.length) ∧ compareR (joinL (P.take k)) (joinL P) ≤ 0 := by
  have hk := check_take hP h1
  obtain ⟨a1, a2⟩ := split_join hk
  obtain ⟨b1, b2⟩ := split_join hP
  have hl : (P.take k).length = k := by rw [List.length_take]; omega
  constructor
  · rw [withinR_ok a2 b2, a1, b1, hl]; simp
  · unfold compareR; rw [if_pos ⟨a2, b2⟩, a1, b1]
    rcases Nat.lt_or_ge k P.length with h | h
    · rw [cmpP_prefix _ _ (by omega) (by rw [hl])]; omega
    · rw [List.take_of_length_le h, cmpP_self]; omega
/-- whether one of the first beginnings is it -/
def isUp (P : List (List UInt8)) (o : List UInt8) (n : Nat) : Bool := decide (∃ k, k < n ∧ 1 ≤ k ∧ k < P.length ∧ joinL (P.take k) = o)
theorem isUp_zero (P : List (List UInt8)) (o : List UInt8) : isUp P o 1 = false := by
  unfold isUp; rw [decide_eq_false_iff_not]; rintro ⟨k, h1, h2, _⟩; omega
theorem isUp_succ (P : List (List UInt8)) (o : List UInt8) (n : Nat) (h : 1 ≤ n) : isUp P o (n + 1) = (isUp P o n || (decide (joinL (P.take n) = o) && decide (n < P.length))) := by
  unfold isUp
  rw [Bool.eq_iff_iff, Bool.or_eq_true, Bool.and_eq_true, decide_eq_true_eq, decide_eq_true_eq, decide_eq_true_eq, decide_eq_true_eq]
  constructor
  · rintro ⟨k, h1, h2, h3, h4⟩
    rcases Nat.lt_or_ge k n with hk | hk
    · exact .inl ⟨k, hk, h2, h3, h4⟩
    · obtain rfl : k = n := by omega
      exact .inr ⟨h4, h3⟩
  · rintro (⟨k, h1, h2, h3, h4⟩ | ⟨h4, h3⟩)
    · exact ⟨k, by omega, h2, h3, h4⟩
    · exact ⟨n, by omega, h, h3, h4⟩
theorem isUp_all {P : List (List UInt8)} (hP : checkE P = 0) (o : List UInt8) : withinR o (joinL P) = isUp P o (P.length + 1) := by
  obtain ⟨b1, b2⟩ := split_join hP
  rw [Bool.eq_iff_iff]
  unfold isUp
  rw [decide_eq_true_eq]
  constructor
  · intro h
    have h' := h
    unfold withinR at h
    rw [decide_eq_true_eq, b1] at h
    obtain ⟨h1, _, h3, h4⟩ := h
    refine ⟨(pieces o).length, by omega, List.length_pos_iff.2 (pieces_ne o), h3, ?_⟩
    rw [← h4, join_pieces]
  · rintro ⟨k, h1, h2, h3, rfl⟩
    rw [(within_take hP h2 (by omega)).1]; simpa using h3

/-! what lies apart -/
theorem apart_get {l : List (List UInt8)} (h : l.Pairwise apart) {i k : Nat} (hi : i < l.length) (hk : k < i) : apart l[i] l[k] :=
  apart_symm (List.pairwise_iff_getElem.1 h k i (by omega) hi hk)
theorem apart_off {x y : List UInt8} (h : apart x y) : x ≠ y ∧ withinR x y = false ∧ withinR y x = false := by
  obtain ⟨h1, h2⟩ := h
  unfold meets at h2
  rw [Bool.or_eq_false_iff] at h2
  exact ⟨h1, h2.1, h2.2⟩
theorem part_ok {l p : List (List UInt8)} (h : (checkR l).2 = 0) (hs : p.Sublist l.reverse) : checkR p = (0, 0) := by
  obtain ⟨h1, h2⟩ := (checkR_ok l).1 h
  refine checkR_zero ⟨fun x hx => h1 x (by simpa using hs.subset hx), ?_⟩
  exact List.Pairwise.sublist hs (List.pairwise_reverse.2 (h2.imp apart_symm))
theorem part_step {α : Type} {l p : List α} {i : Nat} (hi : i < l.length) (h : p.Sublist (l.drop (i + 1)).reverse) : p.Sublist (l.drop i).reverse ∧ (p ++ [l[i]]).Sublist (l.drop i).reverse := by
  rw [List.drop_eq_getElem_cons hi, List.reverse_cons]
  exact ⟨h.trans (List.sublist_append_left _ _), h.append (List.Sublist.refl _)⟩
end Go.Proofs.YtfgglckpfnnaoaaDoor.Pap
