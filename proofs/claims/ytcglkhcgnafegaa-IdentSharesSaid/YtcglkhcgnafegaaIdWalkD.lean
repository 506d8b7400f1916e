/- areDigits, Hex, Unhex, Has of the program; Has of the reference. -/
import Derived.Test.YtcglkhcgnafegaaIdRune
import Derived.Test.YtcglkhcgnafegaaIdWalkC
import Derived.Test.YtcglkhcgnafegaaBuilder
namespace Go.Proofs.Ytcglkhcgnafegaa
open Go.RowKit Idp
set_option linter.unusedVariables false

theorem decode_far {s : ByteArray} {pos : Nat} (h : pos < s.size) (hb : 128 ≤ s[pos].toNat) : 128 ≤ (Utf8.decode s pos).1 := by
  have hg : (s.get! pos).toNat = s[pos].toNat := by
    have : s.get! pos = s[pos] := by simp [ByteArray.get!, h]; rfl
    rw [this]
  unfold Utf8.decode
  simp only [Nat.add_zero, hg]
  rw [if_neg (by omega)]
  unfold Utf8.runeError
  split
  · split <;> simp_all <;> omega
  · split
    · split <;> simp_all <;> omega
    · split
      · split <;> simp_all <;> omega
      · simp
theorem decode_near {s : ByteArray} {pos : Nat} (h : pos < s.size) (hb : s[pos].toNat < 128) : Utf8.decode s pos = (s[pos].toNat, 1) := by
  have hg : (s.get! pos).toNat = s[pos].toNat := by
    have : s.get! pos = s[pos] := by simp [ByteArray.get!, h]; rfl
    rw [this]
  unfold Utf8.decode
  simp only [Nat.add_zero, hg]
  rw [if_pos hb]
theorem isDigR_hex (c : UInt8) : isDigR (c.toNat : Int) = isHex c := by
  unfold isDigR isHex; rw [Bool.eq_iff_iff]; simp; omega
theorem idx_all (s : ByteArray) : ∀ (f pos : Nat), s.size ≤ pos + f → ((0 ≤ Lib.idxFuncFrom (fun x => !isDigR x) true s f pos) ↔ ∃ j, pos ≤ j ∧ ∃ h : j < s.size, isHex s[j] = false)
  | 0, pos, h => by
    simp only [Lib.idxFuncFrom]
    constructor
    · intro h; omega
    · rintro ⟨j, h1, h2, _⟩; omega
  | f + 1, pos, h => by
    unfold Lib.idxFuncFrom
    by_cases hp : pos < s.size
    · rw [if_pos hp]
      by_cases hb : s[pos].toNat < 128
      · rw [decode_near hp hb]
        simp only [isDigR_hex]
        by_cases hx : isHex s[pos] = true
        · rw [if_neg (by simp [hx]), idx_all s f (pos + 1) (by omega)]
          constructor
          · rintro ⟨j, h1, h2, h3⟩; exact ⟨j, by omega, h2, h3⟩
          · rintro ⟨j, h1, h2, h3⟩
            refine ⟨j, ?_, h2, h3⟩
            rcases Nat.lt_or_ge pos j with h4 | h4
            · exact h4
            · obtain rfl : j = pos := by omega
              rw [hx] at h3; cases h3
        · rw [if_pos (by simpa using hx)]
          constructor
          · intro _; exact ⟨pos, Nat.le_refl _, hp, by simpa using hx⟩
          · intro _; omega
      · have hd := decode_far hp (by omega)
        have hn : isDigR ((Utf8.decode s pos).1 : Int) = false := by unfold isDigR; simp; omega
        rw [if_pos (by simp [hn])]
        constructor
        · intro _
          refine ⟨pos, Nat.le_refl _, hp, ?_⟩
          unfold isHex; simp; omega
        · intro _; omega
    · rw [if_neg hp]
      constructor
      · intro h; omega
      · rintro ⟨j, h1, h2, _⟩; omega
theorem idx_dig (s : ByteArray) : (!decide (0 ≤ Lib.idxFunc (fun x => !isDigR x) true s)) = areDig s.data.toList := by
  have h := idx_all s s.size 0 (by omega)
  by_cases ha : areDig s.data.toList = true
  · rw [ha]
    have : ¬ 0 ≤ Lib.idxFunc (fun x => !isDigR x) true s := by
      intro h0
      obtain ⟨j, _, hj, hx⟩ := h.1 h0
      have := areDig_getD ha (k := j) (by simpa using hj)
      rw [getD_byte hj, hx] at this; cases this
    simp [this]
  · have hf : areDig s.data.toList = false := by simpa using ha
    rw [hf]
    have : 0 ≤ Lib.idxFunc (fun x => !isDigR x) true s := by
      apply h.2
      rcases Classical.em (∃ j, 0 ≤ j ∧ ∃ h : j < s.size, isHex s[j] = false) with hc | hc
      · exact hc
      · exfalso; apply ha
        refine areDig_all (fun j hj => ?_)
        have hj' : j < s.size := by simpa using hj
        rw [getD_byte hj']
        cases hx : isHex s[j]
        · exact absurd ⟨j, Nat.zero_le _, hj', hx⟩ hc
        · rfl
    simp [this]

theorem areDigits_any (s : ByteArray) (w : World) : Calls Try.prog 27 #[.string s] w fun e w' => e = .returned (.bool (areDig s.data.toList)) ∧ Below w.heap.size w w' := by
  have hp : PredGrows Try.prog 36 #[] (fun x => !isDigR (x : Int)) w := fun W x hx _ => odd_any x hx W
  have c := Try.strings_ContainsFunc_grows 36 #[] (fun args w => rfl) _ s w hp
  have HI := hid (idx_dig s)
  obtain ⟨q, hq⟩ : ∃ q, decide (0 ≤ Lib.idxFunc (fun x => !isDigR (x : Int)) true s) = q := ⟨_, rfl⟩
  rw [hq] at c HI
  clear hp hq
  go_enter Try.func27, Try.ntmps27
  go_wp2_with (go_at_call 38; refine c.mono ?_; rintro e w' ⟨rfl, hb⟩)
  go_ret
  exact ⟨ret_bool HI.out, hb⟩
end Go.Proofs.Ytcglkhcgnafegaa
