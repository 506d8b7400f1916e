/- Plain law of Share and Short. -/
import Derived.Test.YtcglkhcgnafegaaIdFind
import Derived.Test.YtcglkhcgnafegaaIdFindR
namespace Go.Proofs.Ytcglkhcgnafegaa.Idp

theorem shareFrom_ge (a b : ByteArray) : ∀ f k, k ≤ shareFrom a b f k
  | 0, k => Nat.le_refl _
  | f + 1, k => by unfold shareFrom; split; exact Nat.le_trans (Nat.le_succ k) (shareFrom_ge a b f (k + 1)); exact Nat.le_refl _
theorem shareFrom_le (a b : ByteArray) : ∀ f k, shareFrom a b f k ≤ k + f
  | 0, k => Nat.le_refl _
  | f + 1, k => by unfold shareFrom; split; exact Nat.le_trans (shareFrom_le a b f (k + 1)) (by omega); omega
theorem shareFrom_eq (a b : ByteArray) : ∀ f k j, k ≤ j → j < shareFrom a b f k → digitN a j = digitN b j
  | 0, k, j, h, h2 => by simp only [shareFrom] at h2; omega
  | f + 1, k, j, h, h2 => by
    unfold shareFrom at h2
    split at h2
    · rename_i he
      rcases Nat.lt_or_ge k j with h3 | h3
      · exact shareFrom_eq a b f (k + 1) j h3 h2
      · obtain rfl : j = k := by omega
        exact he
    · omega
theorem shareFrom_ne (a b : ByteArray) : ∀ f k, shareFrom a b f k < k + f → digitN a (shareFrom a b f k) ≠ digitN b (shareFrom a b f k)
  | 0, k, h => by simp only [shareFrom] at h; omega
  | f + 1, k, h => by
    unfold shareFrom at h ⊢
    split
    · rename_i he
      rw [if_pos he] at h
      exact shareFrom_ne a b f (k + 1) (by omega)
    · rename_i he; exact he
theorem share_in {a b : ByteArray} (ha : a.size = 32) (hb : b.size = 32) : share a b = shareFrom a b 64 0 := by unfold share; rw [if_pos ⟨ha, hb⟩]
theorem share_le (a b : ByteArray) : share a b ≤ 64 := by
  unfold share; split
  · have := shareFrom_le a b 64 0; omega
  · omega
theorem share_digit {a b : ByteArray} (ha : a.size = 32) (hb : b.size = 32) {j : Nat} (h : j < share a b) : digitN a j = digitN b j := by
  rw [share_in ha hb] at h; exact shareFrom_eq a b 64 0 j (by omega) h
theorem share_differ {a b : ByteArray} (ha : a.size = 32) (hb : b.size = 32) (h : share a b < 64) : digitN a (share a b) ≠ digitN b (share a b) := by
  rw [share_in ha hb] at h ⊢; exact shareFrom_ne a b 64 0 (by omega)
theorem share_ge_iff {a b : ByteArray} (ha : a.size = 32) (hb : b.size = 32) {n : Nat} (hn : n ≤ 64) : n ≤ share a b ↔ ∀ j, j < n → digitN a j = digitN b j := by
  constructor
  · intro h j hj; exact share_digit ha hb (by omega)
  · intro h
    rcases Nat.lt_or_ge (share a b) n with h2 | h2
    · exact absurd (h _ h2) (share_differ ha hb (by omega))
    · exact h2
theorem byte_of_digits {a b : ByteArray} {i : Nat} (h0 : digitN a (2 * i) = digitN b (2 * i)) (h1 : digitN a (2 * i + 1) = digitN b (2 * i + 1)) : byteAt a i = byteAt b i := by
  unfold digitN nibB at h0 h1
  rw [if_pos (by omega), if_pos (by omega), show 2 * i / 2 = i from by omega] at h0
  rw [if_neg (by omega), if_neg (by omega), show (2 * i + 1) / 2 = i from by omega] at h1
  omega
theorem ext_digits {a b : ByteArray} (ha : a.size = 32) (hb : b.size = 32) (h : ∀ j, j < 64 → digitN a j = digitN b j) : a = b := by
  apply ba_ext
  have la : a.data.toList.length = 32 := by rw [size_length]; exact ha
  have lb : b.data.toList.length = 32 := by rw [size_length]; exact hb
  apply List.ext_getElem (by rw [la, lb])
  intro i hi hi2
  have hb := byte_of_digits (h (2 * i) (by omega)) (h (2 * i + 1) (by omega))
  unfold byteAt at hb
  rw [List.getD_eq_getElem?_getD, List.getElem?_eq_getElem hi, List.getD_eq_getElem?_getD, List.getElem?_eq_getElem hi2] at hb
  exact UInt8.toNat_inj.1 hb
theorem share_lt {a b : ByteArray} (ha : a.size = 32) (hb : b.size = 32) (h : a ≠ b) : share a b < 64 := by
  rcases Nat.lt_or_ge (share a b) 64 with h2 | h2
  · exact h2
  · exact absurd (ext_digits ha hb ((share_ge_iff ha hb (Nat.le_refl _)).1 h2)) h
theorem share_self {a : ByteArray} (ha : a.size = 32) : share a a = 64 := by
  have h1 := (share_ge_iff ha ha (Nat.le_refl 64)).2 (fun _ _ => rfl)
  have := share_le a a; omega

/-! Short -/
def moreOf (id : ByteArray) (m : Nat) (o : ByteArray) : Nat := if o ≠ id ∧ o.size = 32 then max m (share o id + 1) else m
theorem most_eq (l : List ByteArray) (id : ByteArray) : mostUpto l id = l.foldl (moreOf id) 4 := rfl
theorem fold_le_iff (id : ByteArray) (n : Nat) : ∀ (l : List ByteArray) (m : Nat), l.foldl (moreOf id) m ≤ n ↔ m ≤ n ∧ ∀ o ∈ l, o ≠ id → o.size = 32 → share o id + 1 ≤ n
  | [], m => by simp
  | x :: l, m => by
    rw [List.foldl_cons, fold_le_iff id n l]
    unfold moreOf
    by_cases hx : x ≠ id ∧ x.size = 32
    · rw [if_pos hx]
      constructor
      · rintro ⟨h1, h2⟩
        refine ⟨by omega, fun o ho h3 h4 => ?_⟩
        rcases List.mem_cons.1 ho with rfl | h
        · omega
        · exact h2 o h h3 h4
      · rintro ⟨h1, h2⟩
        have := h2 x (by simp) hx.1 hx.2
        exact ⟨by omega, fun o ho => h2 o (List.mem_cons_of_mem _ ho)⟩
    · rw [if_neg hx]
      constructor
      · rintro ⟨h1, h2⟩
        refine ⟨h1, fun o ho h3 h4 => ?_⟩
        rcases List.mem_cons.1 ho with rfl | h
        · exact absurd ⟨h3, h4⟩ hx
        · exact h2 o h h3 h4
      · rintro ⟨h1, h2⟩
        exact ⟨h1, fun o ho => h2 o (List.mem_cons_of_mem _ ho)⟩
theorem most_le_iff (l : List ByteArray) (id : ByteArray) (n : Nat) : mostUpto l id ≤ n ↔ 4 ≤ n ∧ ∀ o ∈ l, o ≠ id → o.size = 32 → share o id + 1 ≤ n := fold_le_iff id n l 4
theorem most_ge (l : List ByteArray) (id : ByteArray) : 4 ≤ mostUpto l id := ((most_le_iff l id _).1 (Nat.le_refl _)).1
theorem most_le {l : List ByteArray} {id : ByteArray} (hs : id.size = 32) : mostUpto l id ≤ 64 := by
  rw [most_le_iff]; exact ⟨by omega, fun o _ h1 h2 => share_lt h2 hs h1⟩
theorem areDig_hex (s : ByteArray) (n : Nat) : areDig (hexUpto s n) = true := by
  unfold areDig; rw [List.all_eq_true]; intro x hx
  obtain ⟨k, _, rfl⟩ := List.mem_map.1 hx
  exact (hexChar_digit _ (digitN_lt s k)).1
theorem hexUpto_take (s : ByteArray) {n m : Nat} (h : n ≤ m) : (hexUpto s m).take n = hexUpto s n := by
  unfold hexUpto; rw [← List.map_take, List.take_range, Nat.min_eq_left h]
theorem has_hex {o id : ByteArray} (ho : o.size = 32) (hs : id.size = 32) {n : Nat} (hn : n ≤ 64) : has o (hexUpto id n) = true ↔ n ≤ share o id := by
  rw [has_pre ho (areDig_hex id n), hexL_in ho, prefix_getD, hexUpto_length, hexUpto_length, share_ge_iff ho hs hn]
  constructor
  · rintro ⟨_, h⟩ j hj
    have := h j hj
    rw [hexUpto_getD id hj, hexUpto_getD o (by omega)] at this
    have e1 := (hexChar_digit _ (digitN_lt id j)).2
    have e2 := (hexChar_digit _ (digitN_lt o j)).2
    rw [← e1, this, e2]
  · intro h
    refine ⟨hn, fun j hj => ?_⟩
    rw [hexUpto_getD id hj, hexUpto_getD o (by omega), h j hj]
theorem findR_hex {l : List ByteArray} {id : ByteArray} (hs : id.size = 32) (hi : ∃ o ∈ l, o = id) {n : Nat} (h4 : 4 ≤ n) (hn : n ≤ 64) :
    findR l (hexUpto id n) = if mostUpto l id ≤ n then (id, 0) else (ByteArray.empty, 6) := by
  obtain ⟨_, hm, rfl⟩ := hi
  rename_i id
  have hd : ¬ ((hexUpto id n).length > 64 ∨ areDig (hexUpto id n) = false) := by rw [hexUpto_length, areDig_hex]; simp; omega
  have hself : has id (hexUpto id n) = true := (has_hex hs hs hn).2 (by rw [share_self hs]; exact hn)
  have hin : id ∈ l.filter (has · (hexUpto id n)) := List.mem_filter.2 ⟨hm, hself⟩
  unfold findR; rw [if_neg hd]
  have key : mostUpto l id ≤ n ↔ ∀ y ∈ l.filter (has · (hexUpto id n)), y = id := by
    rw [most_le_iff]
    constructor
    · rintro ⟨_, h⟩ y hy
      obtain ⟨hy1, hy2⟩ := List.mem_filter.1 hy
      have hsz := has_size hy2
      have h3 := (has_hex hsz hs hn).1 hy2
      rcases Classical.em (y = id) with h5 | h5
      · exact h5
      · have := h y hy1 h5 hsz; omega
    · intro h
      refine ⟨h4, fun o ho h1 h2 => ?_⟩
      rcases Nat.lt_or_ge (share o id) n with h5 | h5
      · exact h5
      · exact absurd (h o (List.mem_filter.2 ⟨ho, (has_hex h2 hs hn).2 h5⟩)) h1
  cases hq : l.filter (has · (hexUpto id n)) with
  | nil => rw [hq] at hin; cases hin
  | cons x r =>
    rw [hq] at key hin
    by_cases hc : mostUpto l id ≤ n
    · have hall := key.1 hc
      have hx := hall x (by simp)
      subst hx
      have : r.all (fun y => decide (y = x)) = true := by rw [List.all_eq_true]; intro y hy; exact decide_eq_true (hall y (by simp [hy]))
      rw [if_pos hc]; simp only [this]; rfl
    · have : ¬ r.all (fun y => decide (y = x)) = true := by
        intro h; rw [List.all_eq_true] at h
        apply hc; rw [key]
        have he : id = x := by
          rcases List.mem_cons.1 hin with h1 | h1
          · exact h1
          · exact of_decide_eq_true (h id h1)
        intro y hy
        rcases List.mem_cons.1 hy with h1 | h1
        · rw [h1, he]
        · rw [he]; exact of_decide_eq_true (h y h1)
      rw [if_neg hc]; simp only [this]; rfl
end Go.Proofs.Ytcglkhcgnafegaa.Idp
