/- Find of the program. -/
import Derived.Test.YtcglkhcgnafegaaIdWalkF
import Derived.Test.YtcglkhcgnafegaaIdFind
import Derived.Test.YtcglkhcgnafegaaStrs
namespace Go.Proofs.Ytcglkhcgnafegaa
open Go.RowKit Idp
set_option linter.unusedVariables false

set_option maxHeartbeats 1000000 in
theorem find_any (a : Option Addr) (n c : Nat) (l : List ByteArray) (d : ByteArray) (w : World) (hS : StrsAt w a n l) (hn : n ≤ 1000000) :
    Calls Try.prog 10 #[.slice a n c, .string d] w fun e w' => e = .returned (.tuple #[.string (findR l d.data.toList).1, .int .i64 (findR l d.data.toList).2]) ∧ Below w.heap.size w w' := by
  obtain ⟨i0, hi, hz0, hz1, hz2⟩ := info_parts Try.infoS
  by_cases h64 : d.size ≤ 64
  · have hd : ¬ (64 : Int) < d.size := by omega
    by_cases ha : areDig d.data.toList = true
    · have HF := hid (findR_fnd (l := l) (d := d.data.toList) (by rw [size_length]; simp [ha]; omega))
      have hl : l.length = n := hS.1
      go_enter Try.func10, Try.ntmps10
      go_wp2_with (first
        | (go_at_call 27; refine (areDigits_any _ _).mono ?_; rintro e w1 ⟨rfl, hb1⟩))
      have hS1 := hS.later hb1
      go_loopw [6, 19] (fun v i wr => ∃ k : Nat, k ≤ n ∧ i = .int .i64 k ∧ wr.ownsRow w1.heap.size 9 1 v (fnd l d.data.toList k).length (svals (fnd l d.data.toList k)) ∧ Below w1.heap.size w1 wr) (fun _ i _ => n - (intOf i).toNat)
      case atStart => exact ⟨0, by omega, rfl, World.ownsRow_nil _ _ _ _, Below.refl _ _⟩
      case round =>
        obtain ⟨k, hk, rfl, hown, hbel⟩ := hrel
        have hsize := hbel.size
        have hlen := fnd_len l d.data.toList k (by omega)
        by_cases hlt : k < n
        · have hSr := hS1.later hbel
          obtain ⟨b, off, rfl, hc⟩ := hSr.2.2.resolve_left (by omega)
          have hck := hc k hlt
          have HU := hid (fnd_succ (l := l) (d := d.data.toList) (k := k) (by omega))
          obtain ⟨x, hx⟩ : ∃ x, l.getD k ByteArray.empty = x := ⟨_, rfl⟩
          rw [hx] at hck HU
          clear hx hc hSr
          obtain ⟨fa, fc, rfl, hSf⟩ := own_strs hown (by omega)
          by_cases hh : has x d.data.toList = true
          · by_cases hi' : ∃ o ∈ fnd l d.data.toList k, o = x
            · have HN := hid (addNew_in (d := d.data.toList) hi')
              have hq : decide (∃ o ∈ fnd l d.data.toList k, o = x) = true := decide_eq_true hi'
              clear hi'
              go_wp2_with (first
                | (go_at_call 16; refine (has_any _ _ _).mono ?_; rintro e w2 ⟨rfl, hb2⟩)
                | (go_at_call 28; refine (contains_any _ _ _ _ _ _ (hSf.later hb2)).mono ?_; rintro e w2 ⟨rfl, rfl⟩; rw [hq]))
              go_roundw
              case rel => exact ⟨k + 1, by omega, by go_num, by rw [HU.out, HN.out]; exact own_below hown hb2, below_then hbel hb2⟩
              case measure => simp [intOf]; omega
            · have HN := hid (addNew_new hh hi')
              have hq : decide (∃ o ∈ fnd l d.data.toList k, o = x) = false := decide_eq_false hi'
              clear hi'
              go_wp2_with (first
                | (go_at_call 16; refine (has_any _ _ _).mono ?_; rintro e w2 ⟨rfl, hb2⟩)
                | (go_at_call 28; refine (contains_any _ _ _ _ _ _ (hSf.later hb2)).mono ?_; rintro e w2 ⟨rfl, rfl⟩; rw [hq])
                | (at_builtin; have hs2 := hb2.size; refine wpList_append_own _ rfl (.tmp 32) (.tmp 34) 22 rfl w1.heap.size 9 i0 (.string ⟨#[]⟩) 1 16 Try.underlying22 hi hz0 hz1 hz2 rfl (by decide) _ _ _ rfl ((own_below hown hb2).alloc _) _ 1 1 [.string x] rfl rfl (cellNew1 _ _ _) (one_bytes rfl) (by unfold maxLen; omega) (by omega) (by simp; omega) ?_; intro v' w3 hown' hgrow _))
              go_roundw
              case rel => exact ⟨k + 1, by omega, by go_num, by rw [HU.out, HN.out]; exact own_string_snoc hown', below_grown1 (below_then hbel hb2) (own_below hown hb2) _ (by have := hb2.size; omega) hgrow⟩
              case measure => simp [intOf]; omega
          · have hh' : has x d.data.toList = false := by simpa using hh
            have HN := hid (addNew_no (f := fnd l d.data.toList k) hh')
            clear hh
            go_wp2_with (first
              | (go_at_call 16; refine (has_any _ _ _).mono ?_; rintro e w2 ⟨rfl, hb2⟩))
            go_roundw
            case rel => exact ⟨k + 1, by omega, by go_num, by rw [HU.out, HN.out]; exact own_below hown hb2, below_then hbel hb2⟩
            case measure => simp [intOf]; omega
        · obtain rfl : k = n := by omega
          have HR : Hid (findR l d.data.toList = match fnd l d.data.toList k with | [] => (ByteArray.empty, 12) | [x] => (x, 0) | _ :: _ :: _ => (ByteArray.empty, 6)) := by
            have := HF.out; rw [hl] at this; exact this
          generalize fnd l d.data.toList k = f at hown hlen HR
          match f, hown, hlen, HR with
          | [], hown, hlen, HR =>
            obtain ⟨fa, fc, rfl, hSf⟩ := own_strs hown (by simp)
            go_wp2
            go_ret2
            exact ⟨by rw [HR.out]; rfl, below_then hb1 hbel⟩
          | [x], hown, hlen, HR =>
            obtain ⟨fa, fc, rfl, hSf⟩ := own_strs hown (by simp)
            obtain ⟨b, off, rfl, hc⟩ := hSf.2.2.resolve_left (by simp)
            have hc0 : wr.cell? ⟨b, off, none⟩ = some (.string x) := by simpa using hc 0 (by simp)
            clear hc
            go_wp2
            go_ret2
            exact ⟨by rw [HR.out]; rfl, below_then hb1 hbel⟩
          | x :: y :: r, hown, hlen, HR =>
            obtain ⟨fa, fc, rfl, hSf⟩ := own_strs hown (by omega)
            go_wp2
            go_ret2
            exact ⟨by rw [HR.out]; rfl, below_then hb1 hbel⟩
    · have hf : areDig d.data.toList = false := by simpa using ha
      have HX := hid (findR_form (l := l) (d := d.data.toList) (.inr hf))
      clear ha
      go_enter Try.func10, Try.ntmps10
      go_wp2_with (first
        | (go_at_call 27; refine (areDigits_any _ _).mono ?_; rintro e w1 ⟨rfl, hb1⟩))
      go_ret2
      exact ⟨by rw [HX.out]; rfl, hb1⟩
  · have hd : (64 : Int) < d.size := by omega
    have HX := hid (findR_form (l := l) (d := d.data.toList) (.inl (by rw [size_length]; omega)))
    go_enter Try.func10, Try.ntmps10
    go_wp2
    go_ret2
    exact ⟨by rw [HX.out]; rfl, Below.refl _ _⟩
end Go.Proofs.Ytcglkhcgnafegaa
