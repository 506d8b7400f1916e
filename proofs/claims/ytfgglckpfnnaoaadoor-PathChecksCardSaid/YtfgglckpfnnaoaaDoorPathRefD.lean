/- The reference's Within and Check. -/
import Derived.Test.YtfgglckpfnnaoaaDoorPathRefC
import Derived.Test.YtfgglckpfnnaoaaDoorPathWalkD
namespace Go.Proofs.YtfgglckpfnnaoaaDoor
open Go.RowKit Pap
set_option linter.unusedVariables false

theorem within_ls {f p : List UInt8} {x y : List ByteArray} (h1 : splitE f = 0) (h2 : splitE p = 0) (hx : ls x = namesOf f) (hy : ls y = namesOf p) :
    withinR f p = decide (x.length < y.length ∧ ∀ j, j < x.length → x.getD j ByteArray.empty = y.getD j ByteArray.empty) := by
  unfold namesOf at hx hy
  rw [if_pos h1] at hx
  rw [if_pos h2] at hy
  unfold withinR
  rw [← hx, ← hy, ls_length, ls_length, decide_eq_decide]
  constructor
  · rintro ⟨_, _, h3, h4⟩
    refine ⟨h3, fun j hj => ?_⟩
    have e1 : (ls x)[j]? = some (x.getD j ByteArray.empty).data.toList := by rw [List.getElem?_eq_getElem (by rw [ls_length]; exact hj), ls_get]
    have e2 : (ls y)[j]? = some (y.getD j ByteArray.empty).data.toList := by rw [List.getElem?_eq_getElem (by rw [ls_length]; omega), ls_get]
    rw [h4, List.getElem?_take, if_pos hj, e2] at e1
    injection e1 with e1; exact (ba_ext e1).symm
  · rintro ⟨h3, h4⟩
    refine ⟨h1, h2, h3, ?_⟩
    apply List.ext_getElem
    · rw [List.length_take, ls_length, ls_length]; omega
    · intro k g1 g2
      rw [List.getElem_take, ls_get, ls_get, h4 k (by rw [ls_length] at g1; exact g1)]

set_option maxHeartbeats 8000000 in
theorem rwithin_any (a b : ByteArray) (w : World) (ha : a.size ≤ 1048576) (hb : b.size ≤ 1048576) :
    Calls Tryd.prog 21 #[.string a, .string b] w fun e w' => e = .returned (.bool (withinR a.data.toList b.data.toList)) ∧ Below w.heap.size w w' := by
  have HB := Below.refl w.heap.size w
  have HT : True := trivial
  by_cases h1 : splitE a.data.toList = 0
  · by_cases h2 : splitE b.data.toList = 0
    · have H1 := hid h1
      have H2 := hid h2
      have f1 : (splitE a.data.toList != 0) = false := by simp [h1]
      have f2 : (splitE b.data.toList != 0) = false := by simp [h2]
      clear h1 h2
      have HW : Hid (∀ x y : List ByteArray, ls x = namesOf a.data.toList → ls y = namesOf b.data.toList → withinR a.data.toList b.data.toList = decide (x.length < y.length ∧ ∀ j, j < x.length → x.getD j ByteArray.empty = y.getD j ByteArray.empty)) := fun x y => within_ls H1.out H2.out
      go_enter Tryd.func21, Tryd.ntmps21
      go_wp2_with (go_at_call 12; refine (rsplit_any _ _ (by assumption)).mono ?_; first
        | (clear HT; rintro e w1 ⟨v, rfl, hv, hb1⟩; obtain ⟨pa, pc, x, rfl, hs1, hn1, -⟩ := hv; have S1 := hid hs1; have N1 := hid hn1; clear hs1 hn1)
        | (rintro e w2 ⟨v, rfl, hv, hb2⟩; obtain ⟨pb, pd, y, rfl, hs2, hn2, -⟩ := hv; have S2 := hid hs2; have N2 := hid hn2; clear hs2 hn2))
      · go_ret
        exact ⟨ret_bool (by rw [HW.out _ _ N1.out N2.out, decide_eq_false (fun h => by omega)]), below_then hb1 hb2⟩
      · have hle : x.length < y.length := by omega
        have HX : Hid (withinR a.data.toList b.data.toList = decide (∀ j, j < x.length → x.getD j ByteArray.empty = y.getD j ByteArray.empty)) := by
          rw [Hid, HW.out _ _ N1.out N2.out]; simp [hle]
        have hx := S1.out.later hb2
        have hy := S2.out
        have hxm := hx.2.1
        have hym := hy.2.1
        go_loopw [9] (fun i wr => ∃ k : Nat, k ≤ x.length ∧ i = .int .i64 k ∧ Below w2.heap.size w2 wr ∧ Hid (∀ j, j < k → x.getD j ByteArray.empty = y.getD j ByteArray.empty)) (fun i _ => x.length - (intOf i).toNat)
        case atStart => exact ⟨0, by omega, rfl, Below.refl _ _, fun j hj => absurd hj (Nat.not_lt_zero _)⟩
        case round =>
          obtain ⟨k, hk, rfl, hbel, HK⟩ := hrel
          by_cases hlt : k < x.length
          · obtain ⟨b1, o1, rfl, hc1⟩ := (hx.later hbel).2.2.resolve_left (by omega)
            obtain ⟨b2, o2, rfl, hc2⟩ := (hy.later hbel).2.2.resolve_left (by omega)
            have e1 := hc1 k hlt
            have e2 := hc2 k (by omega)
            have HSU : Hid (x.getD k ByteArray.empty = y.getD k ByteArray.empty → ∀ j, j < k + 1 → x.getD j ByteArray.empty = y.getD j ByteArray.empty) := fun e => upto_succ HK.out e
            have hD : x.getD k ByteArray.empty ≠ y.getD k ByteArray.empty → withinR a.data.toList b.data.toList = false := fun hne => by
              rw [HX.out, decide_eq_false (fun h => hne (h k hlt))]
            obtain ⟨p, hp⟩ : ∃ p, x.getD k ByteArray.empty = p := ⟨_, rfl⟩
            obtain ⟨q, hq⟩ : ∃ q, y.getD k ByteArray.empty = q := ⟨_, rfl⟩
            rw [hp] at e1 hD HSU
            rw [hq] at e2 hD HSU
            clear hp hq hc1 hc2
            by_cases he : p = q
            · have t1 : (p.toList == q.toList) = true := by rw [he]; simp
              have HN := hid (HSU.out he)
              clear hD he HSU
              go_wp2
              go_quiet (fail)
              go_wp2
              go_roundw
              case rel => exact ⟨k + 1, by omega, by go_num, below_drewN hbel _, HN⟩
              case measure => simp [intOf]; omega
            · have t1 : (p.toList == q.toList) = false := by rw [beq_eq_false_iff_ne, ba_toList, ba_toList]; exact fun e => he (ba_ext e)
              have HF := hid (hD he)
              clear hD he HSU
              go_wp2
              go_quiet (fail)
              go_wp2
              go_ret
              exact ⟨ret_bool (by rw [HF.out]), below_then (below_then hb1 hb2) (below_drewN hbel _)⟩
          · have HF : Hid (withinR a.data.toList b.data.toList = true) := by
              rw [Hid, HX.out, decide_eq_true (fun j hj => HK.out j (by omega))]
            go_wp2
            go_ret
            exact ⟨ret_bool (by rw [HF.out]), below_then (below_then hb1 hb2) hbel⟩
    · have HX : Hid (withinR a.data.toList b.data.toList = false) := within_no (.inr h2)
      have f1 : (splitE a.data.toList != 0) = false := by simp [h1]
      have f2 : (splitE b.data.toList != 0) = true := by simp [h2]
      clear h1 h2
      go_enter Tryd.func21, Tryd.ntmps21
      go_wp2_with (go_at_call 12; refine (rsplit_any _ _ (by assumption)).mono ?_; rintro e w1 ⟨v, rfl, hv, hb1⟩; replace HB := below_then HB hb1; obtain ⟨pa, pc, x, rfl, hs, hn, -⟩ := hv; clear hs hn hb1)
      go_ret
      exact ⟨ret_bool (by rw [HX.out]), HB⟩
  · have HX : Hid (withinR a.data.toList b.data.toList = false) := within_no (.inl h1)
    have f1 : (splitE a.data.toList != 0) = true := by simp [h1]
    clear h1
    go_enter Tryd.func21, Tryd.ntmps21
    go_wp2_with (go_at_call 12; refine (rsplit_any _ _ (by assumption)).mono ?_; rintro e w1 ⟨v, rfl, hv, hb1⟩; replace HB := below_then HB hb1; obtain ⟨pa, pc, x, rfl, hs, hn, -⟩ := hv; clear hs hn hb1)
    go_ret
    exact ⟨ret_bool (by rw [HX.out]), HB⟩
end Go.Proofs.YtfgglckpfnnaoaaDoor
