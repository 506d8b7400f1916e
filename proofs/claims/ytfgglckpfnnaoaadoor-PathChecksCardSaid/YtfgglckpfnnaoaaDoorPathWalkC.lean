/- cmp.Compare and slices.Compare at texts; Compare and Within of the program. -/
import Derived.Test.YtfgglckpfnnaoaaDoorPathWalkB
import Derived.Test.YtfgglckpfnnaoaaDoorPathPlainB
import Derived.WalkLawsBesides
import Derived.Laws.Concat
namespace Go.Proofs.YtfgglckpfnnaoaaDoor
open Go.RowKit Pap
set_option linter.unusedVariables false

theorem isNaN_any (s : ByteArray) (w : World) : Calls Tryd.prog 49 #[.string s] w fun e w' => e = .returned (.bool false) ∧ w = w' := by
  go_enter Tryd.func49, Tryd.ntmps49
  go_wp2
  go_ret
  exact ⟨ret_bool (by simp), rfl⟩

set_option maxHeartbeats 1000000 in
theorem cmpS_any (a b : ByteArray) (w : World) : Calls Tryd.prog 40 #[.string a, .string b] w fun e w' => e = .returned (.int .i64 (cmpL a.data.toList b.data.toList)) ∧ w = w' := by
  have hl : Op.bytesLess a.toList b.toList = decide (cmpL a.data.toList b.data.toList = -1) := by rw [ba_toList, ba_toList]; exact bytesLess_cmp _ _
  have he : (a.toList == b.toList) = decide (cmpL a.data.toList b.data.toList = 0) := by
    rw [ba_toList, ba_toList, Bool.eq_iff_iff, beq_iff_eq, decide_eq_true_eq]
    exact ⟨fun e => by rw [e]; exact cmpL_self _, cmpL_zero _ _⟩
  rcases cmpL_range a.data.toList b.data.toList with h | h | h
  · rw [h] at hl he
    have h1 : Op.bytesLess a.toList b.toList = true := by rw [hl]; rfl
    have H := hid h; clear h hl he
    go_enter Tryd.func40, Tryd.ntmps40
    go_wp2_with (go_at_call 49; refine (isNaN_any _ _).mono ?_; rintro e w1 ⟨rfl, rfl⟩)
    go_ret
    exact ⟨ret_int (by rw [H.out]), rfl⟩
  · rw [h] at hl he
    have h1 : Op.bytesLess a.toList b.toList = false := by rw [hl]; rfl
    have h2 : (a.toList == b.toList) = true := by rw [he]; rfl
    have H := hid h; clear h hl he
    go_enter Tryd.func40, Tryd.ntmps40
    go_wp2_with (go_at_call 49; refine (isNaN_any _ _).mono ?_; rintro e w1 ⟨rfl, rfl⟩)
    go_ret
    exact ⟨ret_int (by rw [H.out]), rfl⟩
  · rw [h] at hl he
    have h1 : Op.bytesLess a.toList b.toList = false := by rw [hl]; rfl
    have h2 : (a.toList == b.toList) = false := by rw [he]; rfl
    have H := hid h; clear h hl he
    go_enter Tryd.func40, Tryd.ntmps40
    go_wp2_with (go_at_call 49; refine (isNaN_any _ _).mono ?_; rintro e w1 ⟨rfl, rfl⟩)
    go_ret
    exact ⟨ret_int (by rw [H.out]), rfl⟩

theorem ls_get (l : List ByteArray) (k : Nat) (h : k < (ls l).length) : (ls l)[k] = (l.getD k ByteArray.empty).data.toList := by
  rw [ls_length] at h
  simp [ls, List.getElem?_eq_getElem h]

set_option maxHeartbeats 1000000 in
theorem slicesCompare_any (a b : Option Addr) (n m c d : Nat) (x y : List ByteArray) (w : World) (hx : StrsAt w a n x) (hy : StrsAt w b m y) :
    Calls Tryd.prog 28 #[.slice a n c, .slice b m d] w fun e w' => e = .returned (.int .i64 (cmpP (ls x) (ls y))) ∧ w = w' := by
  have hnl := hx.1
  have hml := hy.1
  have hn := hx.2.1
  have hm := hy.2.1
  have xl := ls_length x
  have yl := ls_length y
  go_enter Tryd.func28, Tryd.ntmps28
  go_wp2
  go_loop [11] (fun i => ∃ k : Nat, k ≤ n ∧ k ≤ m ∧ i = .int .i64 k ∧ Hid (cmpP (ls x) (ls y) = cmpP ((ls x).drop k) ((ls y).drop k))) (fun i => n - (intOf i).toNat)
  case atStart => exact ⟨0, by omega, by omega, rfl, rfl⟩
  case round =>
    obtain ⟨k, hk, hk2, rfl, HK⟩ := hrel
    by_cases hlt : k < n
    · by_cases hlt2 : k < m
      · obtain ⟨b1, o1, rfl, hc1⟩ := hx.2.2.resolve_left (by omega)
        obtain ⟨b2, o2, rfl, hc2⟩ := hy.2.2.resolve_left (by omega)
        have h1 := hc1 k hlt
        have h2 := hc2 k hlt2
        have st := cmpP_step (ls x) (ls y) k (by omega) (by omega)
        rw [ls_get, ls_get] at st
        obtain ⟨p, hp⟩ : ∃ p, x.getD k ByteArray.empty = p := ⟨_, rfl⟩
        obtain ⟨q, hq⟩ : ∃ q, y.getD k ByteArray.empty = q := ⟨_, rfl⟩
        rw [hp] at h1 st
        rw [hq] at h2 st
        have cC := cmpS_any p q w
        obtain ⟨C, hC⟩ : ∃ C, cmpL p.data.toList q.data.toList = C := ⟨_, rfl⟩
        rw [hC] at cC st
        have CC := hid cC
        clear cC hp hq hC hc1 hc2
        by_cases h0 : C = 0
        · subst h0
          have HS := hid (HK.out.trans st); clear st
          go_wp2_with (go_at_call 40; refine CC.out.mono ?_; rintro e w1 ⟨rfl, rfl⟩)
          go_round
          case rel => exact ⟨k + 1, by omega, by omega, by go_num, by have := HS.out; simp only [if_true] at this; exact this⟩
          case measure => simp [intOf]; omega
        · have HS : Hid (cmpP (ls x) (ls y) = C) := by have := HK.out.trans st; rwa [if_neg h0] at this
          have e1 : (C != 0) = true := by simpa using h0
          have e2 : (C == 0) = false := by simpa using h0
          clear st h0
          go_wp2_with (go_at_call 40; refine CC.out.mono ?_; rintro e w1 ⟨rfl, rfl⟩)
          go_ret
          exact ⟨ret_int (by rw [HS.out]), rfl⟩
      · obtain ⟨b1, o1, rfl, hc1⟩ := hx.2.2.resolve_left (by omega)
        have h1 := hc1 k hlt
        have HS : Hid (cmpP (ls x) (ls y) = 1) := HK.out.trans (cmpP_behind _ _ k (by omega) (by omega))
        have g1 : (m : Int) ≤ k := by omega
        clear hc1
        go_wp2
        go_ret
        exact ⟨ret_int (by rw [HS.out]), rfl⟩
    · have st := HK.out.trans (cmpP_ends (ls x) (ls y) k (by omega))
      by_cases hlt2 : n < m
      · have HS : Hid (cmpP (ls x) (ls y) = -1) := by rwa [if_pos (by omega)] at st
        have g1 : (n : Int) < m := by omega
        clear st
        go_wp2
        go_ret
        exact ⟨ret_int (by rw [HS.out]), rfl⟩
      · have HS : Hid (cmpP (ls x) (ls y) = 0) := by rwa [if_neg (by omega)] at st
        have g1 : ¬ (n : Int) < m := by omega
        clear st
        go_wp2
        go_ret
        exact ⟨ret_int (by rw [HS.out]), rfl⟩

set_option maxHeartbeats 1000000 in
theorem compare_any (a b : ByteArray) (w : World) (ha : a.size < 4294967281) (hb : b.size < 4294967281) (hm : MaxAt w) :
    Calls Tryd.prog 18 #[.string a, .string b] w fun e w' => e = .returned (.int .i64 (compareR a.data.toList b.data.toList)) ∧ Below w.heap.size w w' := by
  have HM := hid hm
  have HB := Below.refl w.heap.size w
  have HT : True := trivial
  clear hm
  by_cases h1 : splitE a.data.toList = 0
  · by_cases h2 : splitE b.data.toList = 0
    · have HR : Hid (compareR a.data.toList b.data.toList = cmpP (pieces a.data.toList) (pieces b.data.toList)) := by unfold Hid compareR; rw [if_pos ⟨h1, h2⟩]
      have H1 := hid h1
      have H2 := hid h2
      have f1 : (splitE a.data.toList != 0) = false := by simp [h1]
      have f2 : (splitE b.data.toList != 0) = false := by simp [h2]
      clear h1 h2
      go_enter Tryd.func18, Tryd.ntmps18
      go_wp2_with (first
        | (go_at_call 11; refine (split_any _ _ (by assumption) (HM.out.later HB)).mono ?_; rintro e w1 ⟨v, rfl, hv, hb1⟩; replace HB := below_then HB hb1; replace HT := And.intro HT (And.intro (hid hv) (hid hb1)); clear hv hb1)
        | (go_at_call 28; obtain ⟨⟨-, K1, B1⟩, K2, B2⟩ := HT; obtain ⟨p1, c1, l1, rfl, hs1, hn1, -⟩ := K1.out; obtain ⟨p2, c2, l2, rfl, hs2, hn2, -⟩ := K2.out
           refine (slicesCompare_any _ _ _ _ _ _ _ _ _ (hs1.later B2.out) hs2).mono ?_; rintro e w3 ⟨rfl, rfl⟩))
      go_ret
      exact ⟨ret_int (by rw [HR.out]; unfold namesOf; rw [if_pos H1.out, if_pos H2.out]), HB⟩
    · have HR : Hid (compareR a.data.toList b.data.toList = 0) := by unfold Hid compareR; rw [if_neg (fun e => h2 e.2)]
      have f1 : (splitE a.data.toList != 0) = false := by simp [h1]
      have f2 : (splitE b.data.toList != 0) = true := by simp [h2]
      clear h1 h2
      go_enter Tryd.func18, Tryd.ntmps18
      go_wp2_with (go_at_call 11; refine (split_any _ _ (by assumption) (HM.out.later HB)).mono ?_; rintro e w1 ⟨v, rfl, hv, hb1⟩; replace HB := below_then HB hb1; clear hv hb1)
      go_ret
      exact ⟨ret_int (by rw [HR.out]), HB⟩
  · have HR : Hid (compareR a.data.toList b.data.toList = 0) := by unfold Hid compareR; rw [if_neg (fun e => h1 e.1)]
    have f1 : (splitE a.data.toList != 0) = true := by simp [h1]
    clear h1
    go_enter Tryd.func18, Tryd.ntmps18
    go_wp2_with (go_at_call 11; refine (split_any _ _ (by assumption) (HM.out.later HB)).mono ?_; rintro e w1 ⟨v, rfl, hv, hb1⟩; replace HB := below_then HB hb1; clear hv hb1)
    go_ret
    exact ⟨ret_int (by rw [HR.out]), HB⟩

set_option maxHeartbeats 1000000 in
theorem within_any (f p : ByteArray) (w : World) (hf : f.size < 4294967281) (hp : p.size < 4294967281) (hm : MaxAt w) :
    Calls Tryd.prog 20 #[.string f, .string p] w fun e w' => e = .returned (.bool (withinR f.data.toList p.data.toList)) ∧ Below w.heap.size w w' := by
  have HM := hid hm
  have HB := Below.refl w.heap.size w
  clear hm
  by_cases h1 : splitE f.data.toList = 0
  · by_cases h2 : splitE p.data.toList = 0
    · have HR := hid (within_eq h1 h2)
      have f1 : (splitE f.data.toList == 0) = true := by simp [h1]
      have f2 : (splitE p.data.toList == 0) = true := by simp [h2]
      clear h1 h2
      go_enter Tryd.func20, Tryd.ntmps20
      go_wp2_with (first
        | (go_at_call 11; refine (split_any _ _ (by assumption) (HM.out.later HB)).mono ?_; rintro e w1 ⟨v, rfl, hv, hb1⟩; replace HB := below_then HB hb1; clear hv hb1)
        | (go_at_call 30; refine (Tryd.strings_HasPrefix _ _ _).mono ?_; rintro e w3 ⟨rfl, hw⟩; obtain rfl := hw.symm))
      go_ret
      exact ⟨ret_bool (by rw [← HR.out]), HB⟩
    · have HR := hid (within_no (f := f.data.toList) (p := p.data.toList) (.inr h2))
      have f1 : (splitE f.data.toList == 0) = true := by simp [h1]
      have f2 : (splitE p.data.toList == 0) = false := by simp [h2]
      clear h1 h2
      go_enter Tryd.func20, Tryd.ntmps20
      go_wp2_with (go_at_call 11; refine (split_any _ _ (by assumption) (HM.out.later HB)).mono ?_; rintro e w1 ⟨v, rfl, hv, hb1⟩; replace HB := below_then HB hb1; clear hv hb1)
      go_ret
      exact ⟨ret_bool (by rw [HR.out]), HB⟩
  · have HR := hid (within_no (f := f.data.toList) (p := p.data.toList) (.inl h1))
    have f1 : (splitE f.data.toList == 0) = false := by simp [h1]
    clear h1
    go_enter Tryd.func20, Tryd.ntmps20
    go_wp2_with (go_at_call 11; refine (split_any _ _ (by assumption) (HM.out.later HB)).mono ?_; rintro e w1 ⟨v, rfl, hv, hb1⟩; replace HB := below_then HB hb1; clear hv hb1)
    go_ret
    exact ⟨ret_bool (by rw [HR.out]), HB⟩
end Go.Proofs.YtfgglckpfnnaoaaDoor
