/- Plain laws: an id's digits there and back; their order. -/
import Derived.Test.YtcglkhcgnafegaaIdShort
namespace Go.Proofs.Ytcglkhcgnafegaa.Idp

theorem unhex_hex {A : ByteArray} (h : A.size = 32) : unhexR ⟨(hexL A).toArray⟩ = (A.data.toList, 0) := by
  have hl : (hexL A).length = 64 := by rw [hexL_in h, hexUpto_length]
  have hsz : (⟨(hexL A).toArray⟩ : ByteArray).size = 64 := by simp [ByteArray.size, hl]
  have hd : areDig (hexL A) = true := by rw [hexL_in h]; exact areDig_hex A 64
  rw [unhexR_ok hsz hd]
  refine congrArg (fun l => (l, (0 : Int))) ?_
  have hA : A.data.toList.length = 32 := by rw [size_length]; exact h
  apply List.ext_getElem (by rw [unhexUpto_length, hA])
  intro k h1 h2
  rw [unhexUpto_length] at h1
  simp only [unhexUpto, List.getElem_map, List.getElem_range]
  rw [hexL_in h]
  rw [hexUpto_getD A (by omega), hexUpto_getD A (by omega), (hexChar_digit _ (digitN_lt A _)).2, (hexChar_digit _ (digitN_lt A _)).2]
  have hb : byteAt A k = (A.data.toList[k]).toNat := by
    unfold byteAt; rw [List.getD_eq_getElem?_getD, List.getElem?_eq_getElem h2]; rfl
  have e : 16 * digitN A (2 * k) + digitN A (2 * k + 1) = (A.data.toList[k]).toNat := by
    unfold digitN nibB
    rw [if_pos (by omega), if_neg (by omega), show 2 * k / 2 = k from by omega, show (2 * k + 1) / 2 = k from by omega, hb]
    omega
  apply UInt8.toNat_inj.1
  rw [e]; simp
theorem hexL_inj {A B : ByteArray} (ha : A.size = 32) (hb : B.size = 32) (h : hexL A = hexL B) : A = B := by
  have h1 := unhex_hex ha
  rw [h, unhex_hex hb] at h1
  exact ba_ext (congrArg (·.1) h1).symm
theorem unhex_err {s : ByteArray} (h : (unhexR s).2 ≠ 0) : (unhexR s).1 = [] := by
  unfold unhexR at h ⊢
  split
  · rfl
  · split
    · rfl
    · rename_i h1 h2; rw [if_neg h1, if_neg h2] at h; exact absurd rfl h
theorem unhex_fine {s : ByteArray} (h : (unhexR s).2 = 0) : s.size = 64 ∧ areDig s.data.toList = true ∧ (unhexR s).1 = unhexUpto s.data.toList 32 := by
  unfold unhexR at h ⊢
  by_cases h1 : s.size ≠ 64
  · rw [if_pos h1] at h; cases h
  · rw [if_neg h1] at h ⊢
    by_cases h2 : areDig s.data.toList = false
    · rw [if_pos h2] at h; cases h
    · rw [if_neg h2]; exact ⟨by omega, by simpa using h2, rfl⟩
theorem hex_unhex {s : ByteArray} (h : (unhexR s).2 = 0) : (⟨(unhexR s).1.toArray⟩ : ByteArray).size = 32 ∧ hexL ⟨(unhexR s).1.toArray⟩ = s.data.toList := by
  obtain ⟨hs, hd, hu⟩ := unhex_fine h
  have hsz : (⟨(unhexR s).1.toArray⟩ : ByteArray).size = 32 := by rw [hu]; simp [ByteArray.size, unhexUpto_length]
  refine ⟨hsz, ?_⟩
  rw [hexL_in hsz]
  have hl : s.data.toList.length = 64 := by rw [size_length]; exact hs
  apply List.ext_getElem (by rw [hexUpto_length, hl])
  intro j h1 h2
  simp only [hexUpto, List.getElem_map, List.getElem_range]
  rw [hexUpto_length] at h1
  have hx : isHex s.data.toList[j] = true := by
    have := areDig_getD hd h2
    rwa [List.getD_eq_getElem?_getD, List.getElem?_eq_getElem h2] at this
  have hbyte : byteAt ⟨(unhexR s).1.toArray⟩ (j / 2) = 16 * hexVal (s.data.toList.getD (2 * (j / 2)) 0) + hexVal (s.data.toList.getD (2 * (j / 2) + 1) 0) := by
    unfold byteAt
    simp only [hu]
    have hk : j / 2 < 32 := by omega
    rw [List.getD_eq_getElem?_getD, List.getElem?_eq_getElem (by rw [unhexUpto_length]; exact hk)]
    simp only [unhexUpto, List.getElem_map, List.getElem_range, Option.getD_some]
    have a := hexVal_lt _ (areDig_getD hd (k := 2 * (j / 2)) (by omega))
    have b := hexVal_lt _ (areDig_getD hd (k := 2 * (j / 2) + 1) (by omega))
    generalize hexVal (s.data.toList.getD (2 * (j / 2)) 0) = X at a ⊢
    generalize hexVal (s.data.toList.getD (2 * (j / 2) + 1) 0) = Y at b ⊢
    simp; omega
  have a := hexVal_lt _ (areDig_getD hd (k := 2 * (j / 2)) (by omega))
  have b := hexVal_lt _ (areDig_getD hd (k := 2 * (j / 2) + 1) (by omega))
  have hgj : s.data.toList.getD j 0 = s.data.toList[j] := by rw [List.getD_eq_getElem?_getD, List.getElem?_eq_getElem h2]; rfl
  have e0 : j % 2 = 0 → hexVal (s.data.toList.getD (2 * (j / 2)) 0) = hexVal s.data.toList[j] := fun hj => by
    rw [show 2 * (j / 2) = j from by omega, hgj]
  have e1 : ¬ j % 2 = 0 → hexVal (s.data.toList.getD (2 * (j / 2) + 1) 0) = hexVal s.data.toList[j] := fun hj => by
    rw [show 2 * (j / 2) + 1 = j from by omega, hgj]
  have hdig : digitN ⟨(unhexR s).1.toArray⟩ j = hexVal s.data.toList[j] := by
    unfold digitN nibB; rw [hbyte]
    generalize hexVal (s.data.toList.getD (2 * (j / 2)) 0) = X at a e0 ⊢
    generalize hexVal (s.data.toList.getD (2 * (j / 2) + 1) 0) = Y at b e1 ⊢
    split
    · rename_i hj; have := e0 hj; omega
    · rename_i hj; have := e1 hj; omega
  rw [hdig]; exact hexChar_val _ hx

/-! the order -/
def hx (b : UInt8) : List UInt8 := [hexChar (b.toNat / 16), hexChar (b.toNat % 16)]
theorem hexUpto_flat (A : ByteArray) : ∀ k, k ≤ A.data.toList.length → hexUpto A (2 * k) = (A.data.toList.take k).flatMap hx
  | 0, _ => by simp [hexUpto]
  | k + 1, h => by
    rw [show 2 * (k + 1) = 2 * k + 1 + 1 from by omega, hexUpto_succ, hexUpto_succ, hexUpto_flat A k (by omega), List.take_succ_eq_append_getElem (by omega), List.flatMap_append]
    have hb : byteAt A k = (A.data.toList[k]).toNat := by
      unfold byteAt; rw [List.getD_eq_getElem?_getD, List.getElem?_eq_getElem (by omega)]; rfl
    have d0 : digitN A (2 * k) = (A.data.toList[k]).toNat / 16 := by
      unfold digitN nibB; rw [if_pos (by omega), show 2 * k / 2 = k from by omega, hb]
    have d1 : digitN A (2 * k + 1) = (A.data.toList[k]).toNat % 16 := by
      unfold digitN nibB; rw [if_neg (by omega), show (2 * k + 1) / 2 = k from by omega, hb]
    rw [d0, d1]; simp [hx]
theorem hexL_flat {A : ByteArray} (h : A.size = 32) : hexL A = A.data.toList.flatMap hx := by
  have hl : A.data.toList.length = 32 := by rw [size_length]; exact h
  have := hexUpto_flat A 32 (by omega)
  rw [hexL_in h, this, List.take_of_length_le (by omega)]
theorem hexChar_lt {a b : Nat} (ha : a < 16) (hb : b < 16) : decide (hexChar a < hexChar b) = decide (a < b) ∧ (hexChar a == hexChar b) = decide (a = b) := by
  have : ∀ a b : Fin 16, decide (hexChar a.val < hexChar b.val) = decide (a.val < b.val) ∧ (hexChar a.val == hexChar b.val) = decide (a.val = b.val) := by decide +kernel
  exact this ⟨a, ha⟩ ⟨b, hb⟩
theorem less_cons (a b : UInt8) (x y : List UInt8) : Op.bytesLess (a :: x) (b :: y) = (decide (a < b) || (a == b && Op.bytesLess x y)) := by
  rw [Op.bytesLess]
theorem less_hx : ∀ (l m : List UInt8), l.length = m.length → Op.bytesLess (l.flatMap hx) (m.flatMap hx) = Op.bytesLess l m
  | [], [], _ => rfl
  | a :: l, b :: m, h => by
    have ih := less_hx l m (by simpa using h)
    have ha := a.toNat_lt
    have hb := b.toNat_lt
    simp only [List.flatMap_cons, hx, List.cons_append, List.nil_append, less_cons]
    rw [ih]
    obtain ⟨p1, p2⟩ := hexChar_lt (a := a.toNat / 16) (b := b.toNat / 16) (by omega) (by omega)
    obtain ⟨q1, q2⟩ := hexChar_lt (a := a.toNat % 16) (b := b.toNat % 16) (by omega) (by omega)
    rw [p1, p2, q1, q2]
    have e1 : decide (a < b) = decide (a.toNat < b.toNat) := decide_eq_decide.2 UInt8.lt_iff_toNat_lt
    have e2 : (a == b) = decide (a.toNat = b.toNat) := by
      rw [Bool.eq_iff_iff]; simp [UInt8.toNat_inj]
    rw [e1, e2]
    generalize Op.bytesLess l m = q
    generalize a.toNat = n at ha ⊢
    generalize b.toNat = k at hb ⊢
    rw [Bool.eq_iff_iff]
    simp only [Bool.or_eq_true, Bool.and_eq_true, decide_eq_true_eq]
    constructor
    · rintro (h | ⟨h1, h | ⟨h2, h3⟩⟩)
      · left; omega
      · left; omega
      · right; exact ⟨by omega, h3⟩
    · rintro (h | ⟨h1, h3⟩)
      · rcases Nat.lt_or_ge (n / 16) (k / 16) with h5 | h5
        · left; exact h5
        · right; exact ⟨by omega, .inl (by omega)⟩
      · right; exact ⟨by omega, .inr ⟨by omega, h3⟩⟩
  | [], _ :: _, h => by simp at h
  | _ :: _, [], h => by simp at h
theorem less_hex {A B : ByteArray} (ha : A.size = 32) (hb : B.size = 32) : Op.bytesLess (hexL A) (hexL B) = Op.bytesLess A.data.toList B.data.toList := by
  rw [hexL_flat ha, hexL_flat hb, less_hx _ _ (by rw [size_length, size_length, ha, hb])]
end Go.Proofs.Ytcglkhcgnafegaa.Idp
