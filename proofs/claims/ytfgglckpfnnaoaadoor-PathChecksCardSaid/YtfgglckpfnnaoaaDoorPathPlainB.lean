/- More plain laws of layer 5: what lies in a folder begins with it and a slash; a list of paths, checked. -/
import Derived.Test.YtfgglckpfnnaoaaDoorPathPlain
import Derived.Lib.Strings
namespace Go.Proofs.YtfgglckpfnnaoaaDoor.Pap

theorem pieces_app : ∀ (f r : List UInt8), pieces (f ++ 47 :: r) = pieces f ++ pieces r
  | [], r => by rw [List.nil_append, pieces_slash]; rfl
  | c :: f, r => by
    by_cases hc : c = 47
    · subst hc; rw [List.cons_append, pieces_slash, pieces_slash, pieces_app f r]; rfl
    · obtain ⟨p, q, h1, h2⟩ := pieces_other (r := f ++ 47 :: r) hc
      obtain ⟨p', q', h3, h4⟩ := pieces_other (r := f) hc
      rw [List.cons_append, h2, h4]
      rw [pieces_app f r, h3] at h1
      cases h1; rfl
theorem joinL_app : ∀ (a b : List (List UInt8)), a ≠ [] → b ≠ [] → joinL (a ++ b) = joinL a ++ 47 :: joinL b
  | [], _, h, _ => absurd rfl h
  | [x], b, _, hb => by rw [List.singleton_append, joinL_cons x hb]; rfl
  | x :: y :: r, b, _, hb => by
    show x ++ 47 :: joinL (y :: r ++ b) = (x ++ 47 :: joinL (y :: r)) ++ 47 :: joinL b
    rw [joinL_app (y :: r) b (by simp) hb]; simp
theorem hasPrefix_pieces (f p : List UInt8) : Lib.hasPrefix p (f ++ [47]) = decide ((pieces f).length < (pieces p).length ∧ pieces f = (pieces p).take (pieces f).length) := by
  rw [Bool.eq_iff_iff, decide_eq_true_eq]
  unfold Lib.hasPrefix
  rw [List.isPrefixOf_iff_prefix]
  constructor
  · rintro ⟨r, rfl⟩
    rw [List.append_assoc, List.singleton_append, pieces_app]
    have := List.length_pos_iff.2 (pieces_ne r)
    exact ⟨by rw [List.length_append]; omega, by rw [List.take_left]⟩
  · rintro ⟨h1, h2⟩
    refine ⟨joinL ((pieces p).drop (pieces f).length), ?_⟩
    have h3 : (pieces p).drop (pieces f).length ≠ [] := by
      intro e; have := congrArg List.length e; simp at this; omega
    have h4 := joinL_app (pieces f) _ (pieces_ne f) h3
    rw [List.append_assoc, List.singleton_append]
    conv at h4 => rhs; rw [join_pieces]
    rw [← h4]
    conv => lhs; arg 1; lhs; rw [h2]
    rw [List.take_append_drop, join_pieces]
theorem within_eq {f p : List UInt8} (hf : splitE f = 0) (hp : splitE p = 0) : Lib.hasPrefix p (f ++ [47]) = withinR f p := by
  rw [hasPrefix_pieces]; unfold withinR; simp [hf, hp]
theorem within_no {f p : List UInt8} (h : splitE f ≠ 0 ∨ splitE p ≠ 0) : withinR f p = false := by
  unfold withinR; rw [decide_eq_false_iff_not]; rintro ⟨h1, h2, _⟩; rcases h with h | h <;> exact h ‹_›
theorem within_self (p : List UInt8) : withinR p p = false := by unfold withinR; simp

/-! bytes that stand ahead -/
theorem bytesLess_cmp : ∀ a b : List UInt8, Op.bytesLess a b = decide (cmpL a b = -1)
  | [], [] => by simp [Op.bytesLess, cmpL]
  | _ :: _, [] => by simp [Op.bytesLess, cmpL]
  | [], _ :: _ => by simp [Op.bytesLess, cmpL]
  | a :: x, b :: y => by
    unfold Op.bytesLess cmpL
    rw [bytesLess_cmp x y]
    by_cases h1 : a.toNat < b.toNat
    · rw [if_pos h1]; have : a < b := UInt8.lt_iff_toNat_lt.2 h1; simp [this]
    · have hn : ¬ a < b := fun e => h1 (UInt8.lt_iff_toNat_lt.1 e)
      rw [if_neg h1]
      by_cases h2 : b.toNat < a.toNat
      · have : ¬ a = b := fun e => by rw [e] at h2; omega
        rw [if_pos h2]; simp [hn, this]
      · have : a = b := UInt8.toNat_inj.1 (by omega)
        rw [if_neg h2]; simp [this]

/-! a list, checked -/
def bad1 : Int → List (List UInt8) → Option (Int × Int)
  | _, [] => none
  | k, x :: r => if splitE x = 0 then bad1 (k + 1) r else some (k, splitE x)
def meets (p q : List UInt8) : Bool := withinR p q || withinR q p
def pass2 (ahead : List (List UInt8)) : Int → List (List UInt8) → Int × Int
  | _, [] => (0, 0)
  | k, x :: r => if x ∈ ahead then (k, 31) else if ahead.any (meets x) then (k, 32) else pass2 (ahead ++ [x]) (k + 1) r
def checkR (l : List (List UInt8)) : Int × Int := match bad1 0 l with
  | some r => r
  | none => pass2 [] 0 l
/-- no two are alike, none lies in another one -/
def apart (x y : List UInt8) : Prop := x ≠ y ∧ meets x y = false
theorem apart_symm {x y : List UInt8} (h : apart x y) : apart y x := ⟨fun e => h.1 e.symm, by have := h.2; unfold meets at this ⊢; rw [Bool.or_comm]; exact this⟩
theorem bad1_none : ∀ (k : Int) (l : List (List UInt8)), bad1 k l = none ↔ ∀ x ∈ l, splitE x = 0
  | _, [] => by simp [bad1]
  | k, x :: r => by
    unfold bad1
    by_cases h : splitE x = 0
    · rw [if_pos h, bad1_none (k + 1) r]; simp [h]
    · rw [if_neg h]; simp [h]
theorem bad1_some : ∀ (k : Int) (l : List (List UInt8)) (r : Int × Int), bad1 k l = some r → r.2 ≠ 0
  | _, [], _, h => by simp [bad1] at h
  | k, x :: l, r, h => by
    unfold bad1 at h
    by_cases hx : splitE x = 0
    · rw [if_pos hx] at h; exact bad1_some _ l r h
    · rw [if_neg hx] at h; cases h; exact hx
theorem pass2_ok : ∀ (l ahead : List (List UInt8)) (k : Int), (pass2 ahead k l).2 = 0 ↔ (l.Pairwise apart ∧ ∀ x ∈ l, ∀ y ∈ ahead, apart x y)
  | [], _, _ => by simp [pass2]
  | x :: l, ahead, k => by
    unfold pass2
    by_cases h1 : x ∈ ahead
    · rw [if_pos h1]
      constructor
      · intro h; cases h
      · rintro ⟨_, h⟩; exact absurd rfl (h x (by simp) x h1).1
    · rw [if_neg h1]
      by_cases h2 : ahead.any (meets x) = true
      · rw [if_pos h2]
        constructor
        · intro h; cases h
        · rintro ⟨_, h⟩
          obtain ⟨y, hy, hm⟩ := List.any_eq_true.1 h2
          have := (h x (by simp) y hy).2
          rw [hm] at this; cases this
      · rw [if_neg h2, pass2_ok l (ahead ++ [x]) (k + 1)]
        constructor
        · rintro ⟨h3, h4⟩
          refine ⟨List.pairwise_cons.2 ⟨fun y hy => apart_symm (h4 y hy x (by simp)), h3⟩, ?_⟩
          intro y hy z hz
          rcases List.mem_cons.1 hy with rfl | hy
          · refine ⟨fun e => h1 (e ▸ hz), ?_⟩
            cases hm : meets y z
            · rfl
            · exact absurd (List.any_eq_true.2 ⟨z, hz, hm⟩) h2
          · exact h4 y hy z (by simp [hz])
        · rintro ⟨h3, h4⟩
          obtain ⟨h5, h6⟩ := List.pairwise_cons.1 h3
          refine ⟨h6, fun y hy z hz => ?_⟩
          rcases List.mem_append.1 hz with hz | hz
          · exact h4 y (by simp [hy]) z hz
          · simp at hz; subst hz; exact apart_symm (h5 y hy)
theorem pass2_zero : ∀ (l ahead : List (List UInt8)) (k : Int), (pass2 ahead k l).2 = 0 → pass2 ahead k l = (0, 0)
  | [], _, _, _ => rfl
  | x :: l, ahead, k, h => by
    unfold pass2 at h ⊢
    by_cases h1 : x ∈ ahead
    · rw [if_pos h1] at h; cases h
    · rw [if_neg h1] at h ⊢
      by_cases h2 : ahead.any (meets x) = true
      · rw [if_pos h2] at h; cases h
      · rw [if_neg h2] at h ⊢; exact pass2_zero l _ _ h
theorem checkR_ok (l : List (List UInt8)) : (checkR l).2 = 0 ↔ (∀ x ∈ l, splitE x = 0) ∧ l.Pairwise apart := by
  unfold checkR
  cases h : bad1 0 l with
  | some r =>
    constructor
    · intro e; exact absurd e (bad1_some 0 l r h)
    · rintro ⟨e, _⟩; rw [(bad1_none 0 l).2 e] at h; cases h
  | none =>
    have := (bad1_none 0 l).1 h
    show (pass2 [] 0 l).2 = 0 ↔ _
    rw [pass2_ok]; exact ⟨fun h => ⟨this, h.1⟩, fun h => ⟨h.2, fun x _ y hy => absurd hy (by simp)⟩⟩
theorem checkR_zero {l : List (List UInt8)} (h : (∀ x ∈ l, splitE x = 0) ∧ l.Pairwise apart) : checkR l = (0, 0) := by
  have h1 := (checkR_ok l).2 h
  unfold checkR at h1 ⊢
  rw [(bad1_none 0 l).2 h.1] at h1 ⊢
  exact pass2_zero l [] 0 h1
theorem bad1_step (l : List (List UInt8)) (k : Nat) (hk : k < l.length) : bad1 k (l.drop k) = if splitE l[k] = 0 then bad1 ((k + 1 : Nat) : Int) (l.drop (k + 1)) else some ((k : Int), splitE l[k]) := by
  rw [List.drop_eq_getElem_cons hk]; rfl
theorem pass2_step (l : List (List UInt8)) (k : Nat) (hk : k < l.length) : pass2 (l.take k) k (l.drop k) = if l[k] ∈ l.take k then ((k : Int), 31) else if (l.take k).any (meets l[k]) then ((k : Int), 32) else pass2 (l.take (k + 1)) ((k + 1 : Nat) : Int) (l.drop (k + 1)) := by
  rw [List.drop_eq_getElem_cons hk, List.take_add_one, List.getElem?_eq_getElem hk]; rfl
theorem cmpP_step (a b : List (List UInt8)) (k : Nat) (ha : k < a.length) (hb : k < b.length) : cmpP (a.drop k) (b.drop k) = if cmpL a[k] b[k] = 0 then cmpP (a.drop (k + 1)) (b.drop (k + 1)) else cmpL a[k] b[k] := by
  rw [List.drop_eq_getElem_cons ha, List.drop_eq_getElem_cons hb]; rfl
theorem cmpP_behind (a b : List (List UInt8)) (k : Nat) (ha : k < a.length) (hb : b.length ≤ k) : cmpP (a.drop k) (b.drop k) = 1 := by
  rw [List.drop_eq_getElem_cons ha, List.drop_eq_nil_of_le hb]; rfl
theorem cmpP_ends (a b : List (List UInt8)) (k : Nat) (ha : a.length ≤ k) : cmpP (a.drop k) (b.drop k) = if k < b.length then -1 else 0 := by
  rw [List.drop_eq_nil_of_le ha]
  split
  · rename_i h; rw [List.drop_eq_getElem_cons h]; rfl
  · rename_i h; rw [List.drop_eq_nil_of_le (by omega)]; rfl
end Go.Proofs.YtfgglckpfnnaoaaDoor.Pap
