/- Has of the program and of the reference; filled. -/
import Derived.Test.YtcglkhcgnafegaaIdWalkE
namespace Go.Proofs.Ytcglkhcgnafegaa
open Go.RowKit Idp
set_option linter.unusedVariables false

theorem has_good {id : ByteArray} {d : List UInt8} (h : ¬ id.size = 32) : has id d = false := by unfold has; simp [h]
theorem has_dig {id : ByteArray} {d : List UInt8} (h : areDig d = false) : has id d = false := by unfold has; simp [h]
theorem has_pre {id : ByteArray} {d : List UInt8} (h : id.size = 32) (h2 : areDig d = true) : has id d = d.isPrefixOf (hexL id) := by unfold has; simp [h, h2]

set_option maxHeartbeats 400000 in
theorem has_any (id d : ByteArray) (w : World) : Calls Try.prog 16 #[.string id, .string d] w fun e w' => e = .returned (.bool (has id d.data.toList)) ∧ Below w.heap.size w w' := by
  by_cases hs : id.size = 32
  · have hb : decide (id.size = 32) = true := by simpa using hs
    by_cases ha : areDig d.data.toList = true
    · have HX := hid (has_pre (d := d.data.toList) hs ha)
      have HL := hid (hexL_in hs)
      go_enter Try.func16, Try.ntmps16
      go_wp2_with (first
        | (go_at_call 20; refine (good_any _ _).mono ?_; rintro e w' ⟨rfl, rfl⟩)
        | (go_at_call 27; refine (areDigits_any _ _).mono ?_; rintro e w1 ⟨rfl, hb1⟩)
        | (go_at_call 15; refine (hex_any _ _).mono ?_; rintro e w2 ⟨rfl, hb2⟩)
        | (go_at_call 32; refine (Try.strings_HasPrefix _ _ _).mono ?_; rintro e w3 ⟨rfl, hw⟩; obtain rfl := hw.symm))
      go_ret
      refine ⟨ret_bool ?_, below_then hb1 hb2⟩
      rw [HX.out]; rfl
    · have hf : areDig d.data.toList = false := by simpa using ha
      have HX := hid (has_dig (id := id) hf)
      clear ha
      go_enter Try.func16, Try.ntmps16
      go_wp2_with (first
        | (go_at_call 20; refine (good_any _ _).mono ?_; rintro e w' ⟨rfl, rfl⟩)
        | (go_at_call 27; refine (areDigits_any _ _).mono ?_; rintro e w1 ⟨rfl, hb1⟩))
      go_ret
      exact ⟨ret_bool (by rw [HX.out]), hb1⟩
  · have hb : decide (id.size = 32) = false := by simpa using hs
    have HX := hid (has_good (d := d.data.toList) hs)
    go_enter Try.func16, Try.ntmps16
    go_wp2_with (first
        | (go_at_call 20; refine (good_any _ _).mono ?_; rintro e w' ⟨rfl, rfl⟩))
    go_ret
    exact ⟨ret_bool (by rw [HX.out]), Below.refl _ _⟩

/-- the reference's way: digit by digit -/
def pre (id : ByteArray) (l : List UInt8) (k : Nat) : Prop := ∀ j, j < k → ((hexVal (l.getD j 0) : Nat) : Int) = digitZ id j
theorem prefix_getD {l m : List UInt8} : l.isPrefixOf m = true ↔ l.length ≤ m.length ∧ ∀ j, j < l.length → l.getD j 0 = m.getD j 0 := by
  rw [List.isPrefixOf_iff_prefix, List.prefix_iff_eq_take]
  constructor
  · intro h
    have hl : l.length ≤ m.length := by rw [h, List.length_take]; omega
    refine ⟨hl, fun j hj => ?_⟩
    conv => lhs; rw [h]
    simp only [List.getD_eq_getElem?_getD]
    rw [List.getElem?_take, if_pos hj]
  · rintro ⟨h1, h2⟩
    apply List.ext_getElem?
    intro j
    rw [List.getElem?_take]
    by_cases hj : j < l.length
    · rw [if_pos hj]
      have := h2 j hj
      simp only [List.getD_eq_getElem?_getD] at this
      rw [List.getElem?_eq_getElem hj, List.getElem?_eq_getElem (by omega)] at this ⊢
      simpa using this
    · rw [if_neg hj, List.getElem?_eq_none (by omega)]
theorem hexUpto_getD (s : ByteArray) {n j : Nat} (h : j < n) : (hexUpto s n).getD j 0 = hexChar (digitN s j) := by
  simp [hexUpto, List.getD_eq_getElem?_getD, h]
theorem size_length (d : ByteArray) : d.data.toList.length = d.size := by simp
theorem hex_inj {c : UInt8} {d : Nat} (hc : isHex c = true) (hd : d < 16) : hexVal c = d ↔ c = hexChar d := by
  constructor
  · rintro rfl; exact (hexChar_val c hc).symm
  · rintro rfl; exact (hexChar_digit d hd).2
theorem pre_iff {id d : ByteArray} (hs : id.size = 32) (ha : areDig d.data.toList = true) (h64 : d.size ≤ 64) : has id d.data.toList = true ↔ pre id d.data.toList d.size := by
  rw [has_pre hs ha, hexL_in hs, prefix_getD, hexUpto_length, size_length]
  constructor
  · rintro ⟨_, h⟩ j hj
    have h1 := h j hj
    rw [hexUpto_getD id (by omega)] at h1
    rw [digitZ_in hs (by omega) (by omega), h1, (hexChar_digit _ (digitN_lt id j)).2]; simp
  · intro h
    refine ⟨h64, fun j hj => ?_⟩
    have h1 := h j hj
    rw [digitZ_in hs (by omega) (by omega)] at h1
    have h2 : hexVal (d.data.toList.getD j 0) = digitN id j := by simpa using Int.ofNat.inj h1
    rw [hexUpto_getD id (by omega)]
    exact (hex_inj (areDig_getD ha (by rw [size_length]; exact hj)) (digitN_lt id j)).1 h2
theorem hexL_len (s : ByteArray) : (hexL s).length ≤ 64 := by
  unfold hexL; split
  · rw [hexUpto_length]; omega
  · simp
theorem has_long {id d : ByteArray} (h64 : ¬ d.size ≤ 64) : has id d.data.toList = false := by
  unfold has
  have : d.data.toList.isPrefixOf (hexL id) = false := by
    rw [← Bool.not_eq_true, prefix_getD, size_length]
    intro h; have := hexL_len id; omega
  rw [this]; simp

set_option maxHeartbeats 400000 in
theorem hasR_any (id d : ByteArray) (w : World) : Calls Try.prog 24 #[.string id, .string d] w fun e w' => e = .returned (.bool (has id d.data.toList)) ∧ w = w' := by
  by_cases hs : id.size = 32
  · have hb : decide (id.size = 32) = true := by simpa using hs
    by_cases h64 : d.size ≤ 64
    · by_cases ha : areDig d.data.toList = true
      · have hda : (decide (d.size ≤ 64) && areDig d.data.toList) = true := by simp [h64, ha]
        have HI := hid (pre_iff hs ha h64)
        have HD : Hid (∀ k, (h : k < d.size) → isHex d[k] = true) := fun k h => by rw [← getD_byte h]; exact areDig_getD ha (by simpa using h)
        go_enter Try.func24, Try.ntmps24
        go_wp2_with (first
          | (go_at_call 21; refine (goodR_any _ _).mono ?_; rintro e w' ⟨rfl, rfl⟩)
          | (go_at_call 29; refine (digitsR_any _ _).mono ?_; rintro e w1 ⟨rfl, rfl⟩))
        go_loop [5] (fun n => ∃ k : Nat, k ≤ d.size ∧ n = .int .i64 k ∧ Hid (pre id d.data.toList k)) (fun n => d.size - (intOf n).toNat)
        case atStart => exact ⟨0, by omega, rfl, fun j hj => absurd hj (Nat.not_lt_zero _)⟩
        case round =>
          obtain ⟨k, hk, rfl, HK⟩ := hrel
          by_cases hlt : k < d.size
          · have va := valueZ_yes (HD.out k hlt)
            have HG := hid (getD_byte hlt)
            by_cases he : ((hexVal d[k] : Nat) : Int) = digitZ id k
            · have hne : (((hexVal d[k] : Nat) : Int) != digitZ id k) = false := by simp [he]
              have HE := hid he; clear he
              go_wp2_with (first
                | (go_at_call 34; refine (value_any _ _).mono ?_; rintro e w' ⟨rfl, rfl⟩; rw [va])
                | (go_at_call 23; refine (digitR_any _ _ _).mono ?_; rintro e w' ⟨rfl, rfl⟩))
              go_round
              case rel => exact ⟨k + 1, by omega, by go_num, upto_succ HK.out (by rw [HG.out]; exact HE.out)⟩
              case measure => simp [intOf]; omega
            · have hne : (((hexVal d[k] : Nat) : Int) != digitZ id k) = true := by simp [he]
              have HF : Hid (has id d.data.toList = false) := by
                rw [Hid, ← Bool.not_eq_true, HI.out]; intro hp
                have := hp k hlt; rw [getD_byte hlt] at this; exact he this
              clear he
              go_wp2_with (first
                | (go_at_call 34; refine (value_any _ _).mono ?_; rintro e w' ⟨rfl, rfl⟩; rw [va])
                | (go_at_call 23; refine (digitR_any _ _ _).mono ?_; rintro e w' ⟨rfl, rfl⟩))
              go_ret
              exact ⟨ret_bool (by rw [HF.out]), rfl⟩
          · have HF : Hid (has id d.data.toList = true) := by
              obtain rfl : k = d.size := by omega
              exact HI.out.2 HK.out
            go_wp2
            go_ret
            exact ⟨ret_bool (by rw [HF.out]), rfl⟩
      · have hda : (decide (d.size ≤ 64) && areDig d.data.toList) = false := by simp [ha]
        have hf : areDig d.data.toList = false := by simpa using ha
        have HF := hid (has_dig (id := id) hf)
        clear ha
        go_enter Try.func24, Try.ntmps24
        go_wp2_with (first
          | (go_at_call 21; refine (goodR_any _ _).mono ?_; rintro e w' ⟨rfl, rfl⟩)
          | (go_at_call 29; refine (digitsR_any _ _).mono ?_; rintro e w1 ⟨rfl, rfl⟩))
        go_ret
        exact ⟨ret_bool (by rw [HF.out]), rfl⟩
    · have hda : (decide (d.size ≤ 64) && areDig d.data.toList) = false := by simp [h64]
      have HF := hid (has_long (id := id) h64)
      clear h64
      go_enter Try.func24, Try.ntmps24
      go_wp2_with (first
          | (go_at_call 21; refine (goodR_any _ _).mono ?_; rintro e w' ⟨rfl, rfl⟩)
          | (go_at_call 29; refine (digitsR_any _ _).mono ?_; rintro e w1 ⟨rfl, rfl⟩))
      go_ret
      exact ⟨ret_bool (by rw [HF.out]), rfl⟩
  · have hb : decide (id.size = 32) = false := by simpa using hs
    have HX := hid (has_good (d := d.data.toList) hs)
    go_enter Try.func24, Try.ntmps24
    go_wp2_with (first
        | (go_at_call 21; refine (goodR_any _ _).mono ?_; rintro e w' ⟨rfl, rfl⟩))
    go_ret
    exact ⟨ret_bool (by rw [HX.out]), rfl⟩
end Go.Proofs.Ytcglkhcgnafegaa
