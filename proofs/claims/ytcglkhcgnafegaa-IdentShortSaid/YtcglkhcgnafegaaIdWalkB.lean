/- The walks of layer 3's Share, of the program and of the reference; the reference's digit and value; filled. -/
import Derived.Test.YtcglkhcgnafegaaIdWalkA
namespace Go.Proofs.Ytcglkhcgnafegaa
open Go.RowKit Idp
set_option linter.unusedVariables false

theorem share_go (a b : ByteArray) {k : Nat} (hk : k < 64) (h : digitN a k = digitN b k) : shareFrom a b (64 - k) k = shareFrom a b (64 - (k + 1)) (k + 1) := by
  rw [show 64 - k = (64 - (k + 1)) + 1 from by omega, shareFrom, if_pos h]
theorem share_stop (a b : ByteArray) {k : Nat} (hk : k < 64) (h : digitN a k ≠ digitN b k) : shareFrom a b (64 - k) k = k := by
  rw [show 64 - k = (64 - (k + 1)) + 1 from by omega, shareFrom, if_neg h]

theorem share_any (a b : ByteArray) (w : World) : Calls Try.prog 14 #[.string a, .string b] w fun e w' => e = .returned (.int .i64 ((share a b : Nat) : Int)) ∧ w = w' := by
  by_cases ha : a.size = 32
  · by_cases hb : b.size = 32
    · have hs : share a b = shareFrom a b 64 0 := by unfold share; rw [if_pos ⟨ha, hb⟩]
      have HS := hid hs; clear hs
      have hda : decide (a.size = 32) = true := by simpa using ha
      have hdb : decide (b.size = 32) = true := by simpa using hb
      go_enter Try.func14, Try.ntmps14
      go_wp2_with (go_at_call 20; refine (good_any _ _).mono ?_; rintro e w' ⟨rfl, rfl⟩)
      go_loop [5] (fun n => ∃ k : Nat, k ≤ 64 ∧ n = .int .i64 k ∧ Hid (shareFrom a b (64 - k) k = share a b)) (fun n => 64 - (intOf n).toNat)
      case atStart => exact ⟨0, by omega, rfl, HS.symm⟩
      case round =>
        obtain ⟨k, hk, rfl, HK⟩ := hrel
        by_cases hlt : k < 64
        · have ea := digitZ_in ha (k := k) (by omega) (by omega)
          have eb := digitZ_in hb (k := k) (by omega) (by omega)
          simp only [Int.toNat_natCast] at ea eb
          by_cases he : digitN a k = digitN b k
          · have ht : (digitZ a (k : Int) == digitZ b (k : Int)) = true := by rw [ea, eb, he]; simp
            have HE := hid he; clear he ea eb
            go_wp2_with (first | (go_at_call 17; refine (digit_any _ _ _).mono ?_; rintro e w' ⟨rfl, rfl⟩))
            go_round
            case rel => exact ⟨k + 1, by omega, by go_num, (share_go a b hlt HE.out).symm.trans HK.out⟩
            case measure => simp [intOf]; omega
          · have ht : (digitZ a (k : Int) == digitZ b (k : Int)) = false := by rw [ea, eb]; simp; omega
            have HE := hid he; clear he ea eb
            go_wp2_with (first | (go_at_call 17; refine (digit_any _ _ _).mono ?_; rintro e w' ⟨rfl, rfl⟩))
            go_ret
            exact ⟨ret_int (by rw [← HK.out, share_stop a b hlt HE.out]), rfl⟩
        · obtain rfl : k = 64 := by omega
          have e0 : shareFrom a b (64 - 64) 64 = 64 := rfl
          go_wp2
          go_ret
          exact ⟨ret_int (by rw [← HK.out]; rfl), rfl⟩
    · have hs : share a b = 0 := by unfold share; rw [if_neg (fun h => hb h.2)]
      have HS := hid hs; clear hs
      have hda : decide (a.size = 32) = true := by simpa using ha
      have hdb : decide (b.size = 32) = false := by simpa using hb
      go_enter Try.func14, Try.ntmps14
      go_wp2_with (go_at_call 20; refine (good_any _ _).mono ?_; rintro e w' ⟨rfl, rfl⟩)
      go_ret
      exact ⟨ret_int (by rw [HS.out]; rfl), rfl⟩
  · have hs : share a b = 0 := by unfold share; rw [if_neg (fun h => ha h.1)]
    have HS := hid hs; clear hs
    have hda : decide (a.size = 32) = false := by simpa using ha
    go_enter Try.func14, Try.ntmps14
    go_wp2_with (go_at_call 20; refine (good_any _ _).mono ?_; rintro e w' ⟨rfl, rfl⟩)
    go_ret
    exact ⟨ret_int (by rw [HS.out]; rfl), rfl⟩

theorem shareR_any (a b : ByteArray) (w : World) : Calls Try.prog 25 #[.string a, .string b] w fun e w' => e = .returned (.int .i64 ((share a b : Nat) : Int)) ∧ w = w' := by
  by_cases ha : a.size = 32
  · by_cases hb : b.size = 32
    · have hs : share a b = shareFrom a b 64 0 := by unfold share; rw [if_pos ⟨ha, hb⟩]
      have HS := hid hs; clear hs
      have hda : decide (a.size = 32) = true := by simpa using ha
      have hdb : decide (b.size = 32) = true := by simpa using hb
      go_enter Try.func25, Try.ntmps25
      go_wp2_with (go_at_call 21; refine (goodR_any _ _).mono ?_; rintro e w' ⟨rfl, rfl⟩)
      go_loop [5] (fun n => ∃ k : Nat, k ≤ 64 ∧ n = .int .i64 k ∧ Hid (shareFrom a b (64 - k) k = share a b)) (fun n => 64 - (intOf n).toNat)
      case atStart => exact ⟨0, by omega, rfl, HS.symm⟩
      case round =>
        obtain ⟨k, hk, rfl, HK⟩ := hrel
        by_cases hlt : k < 64
        · have ea := digitZ_in ha (k := k) (by omega) (by omega)
          have eb := digitZ_in hb (k := k) (by omega) (by omega)
          simp only [Int.toNat_natCast] at ea eb
          by_cases he : digitN a k = digitN b k
          · have ht : (digitZ a (k : Int) == digitZ b (k : Int)) = true := by rw [ea, eb, he]; simp
            have HE := hid he; clear he ea eb
            go_wp2_with (first | (go_at_call 23; refine (digitR_any _ _ _).mono ?_; rintro e w' ⟨rfl, rfl⟩))
            go_round
            case rel => exact ⟨k + 1, by omega, by go_num, (share_go a b hlt HE.out).symm.trans HK.out⟩
            case measure => simp [intOf]; omega
          · have ht : (digitZ a (k : Int) == digitZ b (k : Int)) = false := by rw [ea, eb]; simp; omega
            have HE := hid he; clear he ea eb
            go_wp2_with (first | (go_at_call 23; refine (digitR_any _ _ _).mono ?_; rintro e w' ⟨rfl, rfl⟩))
            go_ret
            exact ⟨ret_int (by rw [← HK.out, share_stop a b hlt HE.out]), rfl⟩
        · obtain rfl : k = 64 := by omega
          have e0 : shareFrom a b (64 - 64) 64 = 64 := rfl
          go_wp2
          go_ret
          exact ⟨ret_int (by rw [← HK.out]; rfl), rfl⟩
    · have hs : share a b = 0 := by unfold share; rw [if_neg (fun h => hb h.2)]
      have HS := hid hs; clear hs
      have hda : decide (a.size = 32) = true := by simpa using ha
      have hdb : decide (b.size = 32) = false := by simpa using hb
      go_enter Try.func25, Try.ntmps25
      go_wp2_with (go_at_call 21; refine (goodR_any _ _).mono ?_; rintro e w' ⟨rfl, rfl⟩)
      go_ret
      exact ⟨ret_int (by rw [HS.out]; rfl), rfl⟩
  · have hs : share a b = 0 := by unfold share; rw [if_neg (fun h => ha h.1)]
    have HS := hid hs; clear hs
    have hda : decide (a.size = 32) = false := by simpa using ha
    go_enter Try.func25, Try.ntmps25
    go_wp2_with (go_at_call 21; refine (goodR_any _ _).mono ?_; rintro e w' ⟨rfl, rfl⟩)
    go_ret
    exact ⟨ret_int (by rw [HS.out]; rfl), rfl⟩

theorem valueZ_lo (c : UInt8) (h1 : 48 ≤ c.toNat) (h2 : c.toNat ≤ 57) : valueZ c = (c.toNat : Int) - 48 := by
  unfold valueZ isHex hexVal; simp [h1, h2]; omega
theorem valueZ_hi (c : UInt8) (h1 : 97 ≤ c.toNat) (h2 : c.toNat ≤ 102) : valueZ c = (c.toNat : Int) - 87 := by
  unfold valueZ isHex hexVal; simp [h1, h2, show ¬ c.toNat ≤ 57 by omega]; omega
theorem valueZ_no (c : UInt8) (h1 : ¬ (48 ≤ c.toNat ∧ c.toNat ≤ 57)) (h2 : ¬ (97 ≤ c.toNat ∧ c.toNat ≤ 102)) : valueZ c = -1 := by
  unfold valueZ isHex; rw [if_neg (by simp; omega)]
theorem value_any (c : UInt8) (w : World) : Calls Try.prog 34 #[.int .u8 c.toNat] w fun e w' => e = .returned (.int .i64 (valueZ c)) ∧ w = w' := by
  have hlt : c.toNat < 256 := c.toNat_lt
  by_cases h1 : 48 ≤ c.toNat
  · by_cases h2 : c.toNat ≤ 57
    · have HZ := hid (valueZ_lo c h1 h2)
      go_enter Try.func34, Try.ntmps34
      go_wp2
      go_ret
      exact ⟨ret_int (by rw [HZ.out]; try omega), rfl⟩
    · by_cases h3 : 97 ≤ c.toNat
      · by_cases h4 : c.toNat ≤ 102
        · have HZ := hid (valueZ_hi c h3 h4)
          go_enter Try.func34, Try.ntmps34
          go_wp2
          go_ret
          exact ⟨ret_int (by rw [HZ.out]; try omega), rfl⟩
        · have HZ := hid (valueZ_no c (by omega) (by omega))
          go_enter Try.func34, Try.ntmps34
          go_wp2
          go_ret
          exact ⟨ret_int (by rw [HZ.out]; try omega), rfl⟩
      · have HZ := hid (valueZ_no c (by omega) (by omega))
        go_enter Try.func34, Try.ntmps34
        go_wp2
        go_ret
        exact ⟨ret_int (by rw [HZ.out]; try omega), rfl⟩
  · have h3 : ¬ 97 ≤ c.toNat := by omega
    have HZ := hid (valueZ_no c (by omega) (by omega))
    go_enter Try.func34, Try.ntmps34
    go_wp2
    go_ret
    exact ⟨ret_int (by rw [HZ.out]; try omega), rfl⟩

theorem hexChar_lo (n : Int) (h0 : 0 ≤ n) (h : n < 10) : ((hexChar n.toNat).toNat : Int) = 48 + n := by
  unfold hexChar; rw [if_pos (by omega)]; simp; omega
theorem hexChar_hi (n : Int) (h0 : ¬ n < 10) (h : n < 16) : ((hexChar n.toNat).toNat : Int) = 87 + n := by
  unfold hexChar; rw [if_neg (by omega)]; simp; omega
theorem digitC_any (n : Int) (w : World) (h0 : 0 ≤ n) (h1 : n < 16) : Calls Try.prog 35 #[.int .i64 n] w fun e w' => e = .returned (.int .u8 ((hexChar n.toNat).toNat : Int)) ∧ w = w' := by
  by_cases h : n < 10
  · have KN := hid (hexChar_lo n h0 h)
    go_enter Try.func35, Try.ntmps35
    go_wp2
    go_ret
    refine ⟨ret_int ?_, rfl⟩
    rw [KN.out]; try omega
  · have KN := hid (hexChar_hi n h h1)
    go_enter Try.func35, Try.ntmps35
    go_wp2
    go_ret
    refine ⟨ret_int ?_, rfl⟩
    rw [KN.out]; try omega

theorem areDig_not {l : List UInt8} {k : Nat} (hk : k < l.length) (h : isHex (l.getD k 0) ≠ true) : areDig l = false := by
  rw [← Bool.not_eq_true]; intro ha; exact h (areDig_getD ha hk)
theorem areDig_all {l : List UInt8} (h : ∀ j, j < l.length → isHex (l.getD j 0) = true) : areDig l = true := by
  unfold areDig; rw [List.all_eq_true]; intro x hx
  obtain ⟨j, hj, rfl⟩ := List.getElem_of_mem hx
  have := h j hj
  rwa [List.getD_eq_getElem?_getD, List.getElem?_eq_getElem hj] at this
theorem upto_succ {p : Nat → Prop} {k : Nat} (h : ∀ j, j < k → p j) (hk : p k) : ∀ j, j < k + 1 → p j := fun j hj => by
  rcases Nat.lt_succ_iff_lt_or_eq.1 hj with h1 | rfl
  · exact h j h1
  · exact hk
theorem digitsR_any (s : ByteArray) (w : World) : Calls Try.prog 29 #[.string s] w fun e w' => e = .returned (.bool (decide (s.size ≤ 64) && areDig s.data.toList)) ∧ w = w' := by
  by_cases hs : s.size ≤ 64
  · go_enter Try.func29, Try.ntmps29
    go_wp2
    go_loop [3] (fun n => ∃ k : Nat, k ≤ s.size ∧ n = .int .i64 k ∧ Hid (∀ j, j < k → isHex (s.data.toList.getD j 0) = true)) (fun n => s.size - (intOf n).toNat)
    case atStart => exact ⟨0, by omega, rfl, fun j hj => absurd hj (Nat.not_lt_zero _)⟩
    case round =>
      obtain ⟨k, hk, rfl, HK⟩ := hrel
      by_cases hlt : k < s.size
      · have hg : s.data.toList.getD k 0 = s[k] := by rw [List.getD_eq_getElem?_getD, List.getElem?_eq_getElem (by simpa using hlt)]; rfl
        have HG := hid hg; clear hg
        by_cases hx : isHex s[k] = true
        · have hv : valueZ s[k] = ((hexVal s[k] : Nat) : Int) := by unfold valueZ; rw [if_pos hx]
          have HX := hid hx
          have ht : decide (valueZ s[k] < 0) = false := by rw [hv]; simp
          clear hv hx
          go_wp2_with (go_at_call 34; refine (value_any _ _).mono ?_; rintro e w' ⟨rfl, rfl⟩)
          go_round
          case rel => exact ⟨k + 1, by omega, by go_num, upto_succ HK.out (by rw [HG.out]; exact HX.out)⟩
          case measure => simp [intOf]; omega
        · have hv : valueZ s[k] = -1 := by unfold valueZ; rw [if_neg hx]
          have HX := hid hx
          have ht : decide (valueZ s[k] < 0) = true := by rw [hv]; simp
          clear hv hx
          go_wp2_with (go_at_call 34; refine (value_any _ _).mono ?_; rintro e w' ⟨rfl, rfl⟩)
          go_ret
          refine ⟨ret_bool ?_, rfl⟩
          rw [areDig_not (k := k) (by simpa using hlt) (by rw [HG.out]; exact HX.out)]; simp
      · go_wp2
        go_ret
        refine ⟨ret_bool ?_, rfl⟩
        rw [areDig_all (fun j hj => HK.out j (by simp at hj; omega))]
  · go_enter Try.func29, Try.ntmps29
    go_wp2
    go_ret
    exact ⟨ret_bool (by simp [hs]), rfl⟩
end Go.Proofs.Ytcglkhcgnafegaa
