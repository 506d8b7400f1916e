/- The walks of layer 3's small functions: Good, Digit, Share, of the program and of the reference. -/
import Derived.Test.YtcglkhcgnafegaaChecked
import Derived.Test.YtcglkhcgnafegaaBase
import Derived.Test.YtcglkhcgnafegaaIdPlain
import Derived.WalkKit
import Derived.BigQuiet
import Derived.Deep.QuietTactic
namespace Go.Proofs.Ytcglkhcgnafegaa
open Go.RowKit Idp
set_option linter.unusedVariables false


theorem good_any (s : ByteArray) (w : World) : Calls Try.prog 20 #[.string s] w fun e w' => e = .returned (.bool (decide (s.size = 32))) ∧ w = w' := by
  go_enter Try.func20, Try.ntmps20
  go_wp2
  go_ret
  exact ⟨ret_bool (by rw [Bool.eq_iff_iff]; simp; omega), rfl⟩
theorem goodR_any (s : ByteArray) (w : World) : Calls Try.prog 21 #[.string s] w fun e w' => e = .returned (.bool (decide (s.size = 32))) ∧ w = w' := by
  go_enter Try.func21, Try.ntmps21
  go_wp2
  go_ret
  exact ⟨ret_bool (by rw [Bool.eq_iff_iff]; simp; omega), rfl⟩

theorem nib_bits (b : Nat) (hb : b < 256) (k : Int) (h0 : 0 ≤ k) : bits BinOp.and IntKind.i64 (wrap64 ((b : Int) / 2 ^ (4 - k % 2 * 4).toNat)) 15 = ((nibB b k.toNat : Nat) : Int) := by
  have key : ∀ b : Fin 256, bits BinOp.and IntKind.i64 (wrap64 ((b.val : Int) / 2 ^ (4 : Nat))) 15 = ((b.val / 16 : Nat) : Int) ∧ bits BinOp.and IntKind.i64 (wrap64 ((b.val : Int) / 2 ^ (0 : Nat))) 15 = ((b.val % 16 : Nat) : Int) := by decide +kernel
  have kb := key ⟨b, hb⟩
  unfold nibB
  rcases Int.emod_two_eq k with h | h
  · rw [if_pos (by omega), h]; exact kb.1
  · rw [if_neg (by omega), h]; exact kb.2
theorem nib_key : ∀ b : Fin 256, wrap64 ((wrap64 (b.val : Int)).tdiv 16) = ((b.val / 16 : Nat) : Int) ∧ (wrap64 (b.val : Int)).tmod 16 = ((b.val % 16 : Nat) : Int) := by decide +kernel
theorem nib_q (b : Nat) (hb : b < 256) (k : Int) (h0 : 0 ≤ k) (h : (k % 2 == 0) = true) :
    wrap64 ((wrap64 (b : Int)).tdiv 16) = ((if k.toNat % 2 = 0 then b / 16 else b % 16 : Nat) : Int) := by
  have e : k.toNat % 2 = 0 := by simp at h; omega
  rw [if_pos e]; exact (nib_key ⟨b, hb⟩).1
theorem nib_r (b : Nat) (hb : b < 256) (k : Int) (h0 : 0 ≤ k) (h : (k % 2 == 0) = false) :
    (wrap64 (b : Int)).tmod 16 = ((if k.toNat % 2 = 0 then b / 16 else b % 16 : Nat) : Int) := by
  have e : ¬ k.toNat % 2 = 0 := by simp at h; omega
  rw [if_neg e]; exact (nib_key ⟨b, hb⟩).2
theorem byteAt_get (s : ByteArray) (i : Nat) (h : i < s.size) : byteAt s i = s[i].toNat := by
  unfold byteAt
  rw [List.getD_eq_getElem?_getD, List.getElem?_eq_getElem (by simpa using h)]
  rfl

theorem digit_any (s : ByteArray) (k : Int) (w : World) : Calls Try.prog 17 #[.string s, .int .i64 k] w fun e w' => e = .returned (.int .i64 (digitZ s k)) ∧ w = w' := by
  by_cases hs : s.size = 32
  · by_cases hk : 0 ≤ k ∧ k < 64
    · obtain ⟨h0, h1⟩ := hk
      have hz := digitZ_in hs h0 h1
      have HZ := hid hz; clear hz
      have hb : (decide (s.size = 32)) = true := by simpa using hs
      have e2 : (k / 2).toNat = k.toNat / 2 := by omega
      have E2 := hid e2; clear e2
      go_enter Try.func17, Try.ntmps17
      go_wp2_with (go_at_call 20; refine (good_any _ _).mono ?_; rintro e w' ⟨rfl, rfl⟩)
      go_ret
      refine ⟨ret_int ?_, rfl⟩
      rw [HZ.out, nib_bits _ (UInt8.toNat_lt _) _ h0]
      unfold digitN; rw [byteAt_get s _ (by omega)]
      simp only [E2.out]
    · have hz := digitZ_out (s := s) hk
      have HZ := hid hz; clear hz
      have hb : (decide (s.size = 32)) = true := by simpa using hs
      by_cases h0 : 0 ≤ k
      all_goals
        go_enter Try.func17, Try.ntmps17
        go_wp2_with (go_at_call 20; refine (good_any _ _).mono ?_; rintro e w' ⟨rfl, rfl⟩)
        go_ret
        exact ⟨ret_int (by rw [HZ.out]), rfl⟩
  · have hz := digitZ_bad (k := k) hs
    have HZ := hid hz; clear hz
    have hb : (decide (s.size = 32)) = false := by simpa using hs
    go_enter Try.func17, Try.ntmps17
    go_wp2_with (go_at_call 20; refine (good_any _ _).mono ?_; rintro e w' ⟨rfl, rfl⟩)
    go_ret
    exact ⟨ret_int (by rw [HZ.out]), rfl⟩

theorem digitR_any (s : ByteArray) (k : Int) (w : World) : Calls Try.prog 23 #[.string s, .int .i64 k] w fun e w' => e = .returned (.int .i64 (digitZ s k)) ∧ w = w' := by
  by_cases hs : s.size = 32
  · by_cases hk : 0 ≤ k ∧ k < 64
    · obtain ⟨h0, h1⟩ := hk
      have hz := digitZ_in hs h0 h1
      have HZ := hid hz; clear hz
      have hb : (decide (s.size = 32)) = true := by simpa using hs
      have e2 : (k / 2).toNat = k.toNat / 2 := by omega
      have E2 := hid e2; clear e2
      go_enter Try.func23, Try.ntmps23
      go_wp2_with (go_at_call 21; refine (goodR_any _ _).mono ?_; rintro e w' ⟨rfl, rfl⟩)
      all_goals
        go_ret
        refine ⟨ret_int ?_, rfl⟩
        rw [HZ.out]
        unfold digitN nibB; rw [byteAt_get s _ (by omega)]
        simp only [E2.out]
        first | exact nib_q _ (UInt8.toNat_lt _) k h0 ‹_› | exact nib_r _ (UInt8.toNat_lt _) k h0 ‹_›
    · have hz := digitZ_out (s := s) hk
      have HZ := hid hz; clear hz
      have hb : (decide (s.size = 32)) = true := by simpa using hs
      by_cases h0 : 0 ≤ k
      all_goals
        go_enter Try.func23, Try.ntmps23
        go_wp2_with (go_at_call 21; refine (goodR_any _ _).mono ?_; rintro e w' ⟨rfl, rfl⟩)
        go_ret
        exact ⟨ret_int (by rw [HZ.out]), rfl⟩
  · have hz := digitZ_bad (k := k) hs
    have HZ := hid hz; clear hz
    have hb : (decide (s.size = 32)) = false := by simpa using hs
    go_enter Try.func23, Try.ntmps23
    go_wp2_with (go_at_call 21; refine (goodR_any _ _).mono ?_; rintro e w' ⟨rfl, rfl⟩)
    go_ret
    exact ⟨ret_int (by rw [HZ.out]), rfl⟩
end Go.Proofs.Ytcglkhcgnafegaa
