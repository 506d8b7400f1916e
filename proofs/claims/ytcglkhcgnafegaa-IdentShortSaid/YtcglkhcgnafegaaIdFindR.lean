/- Find of the reference. -/
import Derived.Test.YtcglkhcgnafegaaIdWalkG
namespace Go.Proofs.Ytcglkhcgnafegaa
open Go.RowKit Idp
set_option linter.unusedVariables false

/-- what the reference holds after k places -/
def FoundAt (l : List ByteArray) (d : List UInt8) (k : Nat) (x : ByteArray) : Prop :=
  ((l.take k).filter (has · d) = [] ∧ x = ⟨#[]⟩) ∨ (x.size = 32 ∧ ∃ r, (l.take k).filter (has · d) = x :: r ∧ ∀ y ∈ r, y = x)
theorem has_size {x : ByteArray} {d : List UInt8} (h : has x d = true) : x.size = 32 := by unfold has at h; simp at h; exact h.1
theorem filter_take_succ {l : List ByteArray} {k : Nat} (h : k < l.length) (p : ByteArray → Bool) : (l.take (k + 1)).filter p = (l.take k).filter p ++ (if p (l.getD k ByteArray.empty) = true then [l.getD k ByteArray.empty] else []) := by
  rw [take_snoc h, List.filter_append]; simp only [List.filter_cons, List.filter_nil]
theorem foundAt_no {l : List ByteArray} {d : List UInt8} {k : Nat} {x : ByteArray} (h : k < l.length) (hf : FoundAt l d k x) (hh : has (l.getD k ByteArray.empty) d = false) : FoundAt l d (k + 1) x := by
  unfold FoundAt; rw [filter_take_succ h, if_neg (by rw [hh]; simp), List.append_nil]; exact hf
theorem foundAt_first {l : List ByteArray} {d : List UInt8} {k : Nat} {x : ByteArray} (h : k < l.length) (hf : FoundAt l d k x) (hx : x.size = 0) (hh : has (l.getD k ByteArray.empty) d = true) : FoundAt l d (k + 1) (l.getD k ByteArray.empty) := by
  rcases hf with ⟨h1, rfl⟩ | ⟨h1, _⟩
  · refine .inr ⟨has_size hh, [], ?_, by simp⟩
    rw [filter_take_succ h, if_pos hh, h1]; rfl
  · omega
theorem foundAt_same {l : List ByteArray} {d : List UInt8} {k : Nat} {x : ByteArray} (h : k < l.length) (hf : FoundAt l d k x) (hx : x.size ≠ 0) (hh : has (l.getD k ByteArray.empty) d = true) (he : l.getD k ByteArray.empty = x) : FoundAt l d (k + 1) x := by
  rcases hf with ⟨h1, rfl⟩ | ⟨h1, r, h2, h3⟩
  · exact absurd rfl hx
  · refine .inr ⟨h1, r ++ [x], ?_, ?_⟩
    · rw [filter_take_succ h, if_pos hh, h2, he]; rfl
    · intro y hy
      rcases List.mem_append.1 hy with h | h
      · exact h3 y h
      · exact List.mem_singleton.1 h
theorem findR_many {l : List ByteArray} {d : List UInt8} {k : Nat} {x : ByteArray} (h : k < l.length) (hd : ¬ (d.length > 64 ∨ areDig d = false)) (hf : FoundAt l d k x) (hx : x.size ≠ 0) (hh : has (l.getD k ByteArray.empty) d = true) (he : l.getD k ByteArray.empty ≠ x) : findR l d = (ByteArray.empty, 6) := by
  rcases hf with ⟨h1, rfl⟩ | ⟨h1, r, h2, h3⟩
  · exact absurd rfl hx
  · have h4 : l.filter (has · d) = x :: (r ++ l.getD k ByteArray.empty :: (l.drop (k + 1)).filter (has · d)) := by
      conv => lhs; rw [← List.take_append_drop (k + 1) l]
      rw [List.filter_append, filter_take_succ h, if_pos hh, h2]; simp
    unfold findR; rw [if_neg hd, h4]
    have : ¬ ((r ++ l.getD k ByteArray.empty :: (l.drop (k + 1)).filter (has · d)).all (fun y => decide (y = x)) = true) := by
      rw [List.all_eq_true]; intro hall
      have := hall (l.getD k ByteArray.empty) (by simp)
      exact he (of_decide_eq_true this)
    simp only [this]; rfl
theorem findR_end {l : List ByteArray} {d : List UInt8} {x : ByteArray} (hd : ¬ (d.length > 64 ∨ areDig d = false)) (hf : FoundAt l d l.length x) : findR l d = if x.size = 0 then (ByteArray.empty, 12) else (x, 0) := by
  unfold FoundAt at hf; rw [List.take_length] at hf
  unfold findR; rw [if_neg hd]
  rcases hf with ⟨h1, rfl⟩ | ⟨h1, r, h2, h3⟩
  · rw [h1]; rfl
  · rw [h2, if_neg (by omega)]
    have : r.all (fun y => decide (y = x)) = true := by rw [List.all_eq_true]; intro y hy; exact decide_eq_true (h3 y hy)
    simp only [this]; rfl

set_option maxHeartbeats 1000000 in
theorem findR_any (a : Option Addr) (n c : Nat) (l : List ByteArray) (d : ByteArray) (w : World) (hS : StrsAt w a n l) :
    Calls Try.prog 11 #[.slice a n c, .string d] w fun e w' => e = .returned (.tuple #[.string (findR l d.data.toList).1, .int .i64 (findR l d.data.toList).2]) ∧ w = w' := by
  by_cases hq : d.data.toList.length > 64 ∨ areDig d.data.toList = false
  · have HX := hid (findR_form (l := l) hq)
    have hb : (decide (d.size ≤ 64) && areDig d.data.toList) = false := by
      rw [size_length] at hq
      rcases hq with h | h
      · simp; intro h2; omega
      · simp [h]
    obtain ⟨q, hq2⟩ : ∃ q, (decide (d.size ≤ 64) && areDig d.data.toList) = q := ⟨_, rfl⟩
    have cD := digitsR_any d w
    rw [hb] at cD
    have HD := hid cD; clear cD hq hb hq2
    go_enter Try.func11, Try.ntmps11
    go_wp2_with (first
        | (go_at_call 29; refine HD.out.mono ?_; rintro e w1 ⟨rfl, rfl⟩))
    go_ret2
    exact ⟨by rw [HX.out]; rfl, rfl⟩
  · have HQ := hid hq
    have hb : (decide (d.size ≤ 64) && areDig d.data.toList) = true := by
      rw [size_length] at hq
      simp; simp at hq; exact hq
    have cD := digitsR_any d w
    rw [hb] at cD
    have HD := hid cD; clear cD hq hb
    have hl : l.length = n := hS.1
    have hm := hS.2.1
    go_enter Try.func11, Try.ntmps11
    go_wp2_with (first
        | (go_at_call 29; refine HD.out.mono ?_; rintro e w1 ⟨rfl, rfl⟩))
    go_loop [6, 7] (fun v i => ∃ k : Nat, k ≤ n ∧ i = .int .i64 k ∧ ∃ x, v = .string x ∧ FoundAt l d.data.toList k x) (fun _ i => n - (intOf i).toNat)
    case atStart => exact ⟨0, by omega, rfl, ⟨#[]⟩, rfl, .inl ⟨by simp, rfl⟩⟩
    case round =>
      obtain ⟨k, hk, rfl, x, rfl, hf⟩ := hrel
      by_cases hlt : k < n
      · have hlk : k < l.length := by omega
        obtain ⟨b, off, rfl, hc⟩ := hS.2.2.resolve_left (by omega)
        have hck := hc k hlt
        obtain ⟨y, hy⟩ : ∃ y, l.getD k ByteArray.empty = y := ⟨_, rfl⟩
        rw [hy] at hck
        by_cases hh : has y d.data.toList = true
        · by_cases hx : x.size = 0
          · have HN := hid (foundAt_first hlk hf hx (by rw [hy]; exact hh))
            rw [hy] at HN
            obtain rfl : x = ⟨#[]⟩ := by
              cases x with | mk dd => exact congrArg ByteArray.mk (Array.eq_empty_of_size_eq_zero hx)
            clear hx hc hy hlk hf
            go_wp2_with (first
              | (go_at_call 24; refine (hasR_any _ _ _).mono ?_; rintro e w2 ⟨rfl, rfl⟩))
            go_round
            case rel => exact ⟨k + 1, by omega, by go_num, y, rfl, HN.out⟩
            case measure => simp [intOf]; omega
          · by_cases he : y = x
            · have HN := hid (foundAt_same hlk hf hx (by rw [hy]; exact hh) (by rw [hy, he]))
              subst he
              have hx1 := bstr_some hx
              have hx2 := bstr_isEmpty hx
              clear hc hy hlk hf
              go_wp2_with (first
                | (go_at_call 24; refine (hasR_any _ _ _).mono ?_; rintro e w2 ⟨rfl, rfl⟩))
              go_round
              case rel => exact ⟨k + 1, by omega, by go_num, y, rfl, HN.out⟩
              case measure => simp [intOf]; omega
            · have HN := hid (findR_many hlk HQ.out hf hx (by rw [hy]; exact hh) (by rw [hy]; exact he))
              have hx1 := bstr_some hx
              have hx2 := bstr_isEmpty hx
              have hx3 := bstr_ne (fun h => he h.symm : x ≠ y)
              clear hc hy hlk hf he
              go_wp2_with (first
                | (go_at_call 24; refine (hasR_any _ _ _).mono ?_; rintro e w2 ⟨rfl, rfl⟩))
              go_ret2
              exact ⟨by rw [HN.out]; rfl, rfl⟩
        · have hh' : has y d.data.toList = false := by simpa using hh
          have HN := hid (foundAt_no hlk hf (by rw [hy]; exact hh'))
          clear hh hc hy hlk hf
          go_wp2_with (first
            | (go_at_call 24; refine (hasR_any _ _ _).mono ?_; rintro e w2 ⟨rfl, rfl⟩))
          go_round
          case rel => exact ⟨k + 1, by omega, by go_num, x, rfl, HN.out⟩
          case measure => simp [intOf]; omega
      · obtain rfl : k = l.length := by omega
        have HN := hid (findR_end HQ.out hf)
        by_cases hx : x.size = 0
        · have hx1 := bstr_nil hx
          have hx2 : x.toList.isEmpty = true := by rw [hx1]; rfl
          have HX := hid hx; clear hx hf
          go_wp2
          go_ret2
          exact ⟨by rw [HN.out, if_pos HX.out]; rfl, rfl⟩
        · have hx1 := bstr_some hx
          have hx2 := bstr_isEmpty hx
          have HX := hid hx; clear hx hf
          go_wp2
          go_ret2
          exact ⟨by rw [HN.out, if_neg HX.out]; rfl, rfl⟩
end Go.Proofs.Ytcglkhcgnafegaa
