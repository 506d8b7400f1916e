/- The walks of PathBack and PathOrder. -/
import Derived.Test.YtfgglckpfnnaoaaDoorPathLawA
import Derived.Test.YtfgglckpfnnaoaaDoorPathPlainC
namespace Go.Proofs.YtfgglckpfnnaoaaDoor
open Go.RowKit Pap
set_option linter.unusedVariables false

theorem split_yes (s : ByteArray) (w : World) (hs : s.size < 4294967281) (hm : MaxAt w) (h : splitE s.data.toList = 0) :
    Calls Tryd.prog 11 #[.string s] w fun e w' => ∃ (a : Option Addr) (l : List ByteArray), e = .returned (.tuple #[.slice a l.length l.length, .int .i64 0]) ∧ StrsAt w' a l.length l ∧ ls l = pieces s.data.toList ∧ Below w.heap.size w w' :=
  (splitC_any s w hs hm).mono fun e w' ⟨v, he, ⟨a, l, h1, h2, h3, _⟩, hb⟩ => ⟨a, l, by rw [he, h1, h], h2, by rw [h3]; unfold namesOf; rw [if_pos h], hb⟩
theorem split_num (s : ByteArray) (w : World) (hs : s.size < 4294967281) (hm : MaxAt w) (E : Int) (h : splitE s.data.toList = E) :
    Calls Tryd.prog 11 #[.string s] w fun e w' => ∃ (a : Option Addr) (l : List ByteArray), e = .returned (.tuple #[.slice a l.length l.length, .int .i64 E]) ∧ Below w.heap.size w w' :=
  (splitC_any s w hs hm).mono fun e w' ⟨v, he, ⟨a, l, h1, h2, h3, _⟩, hb⟩ => ⟨a, l, by rw [he, h1, h], hb⟩
theorem join_yes (a : Option Addr) (n c : Nat) (l : List ByteArray) (w : World) (hS : StrsAt w a n l) (hc : n ≤ c) (T : ByteArray) (h : checkE (ls l) = 0) (hT : T.data.toList = joinL (ls l)) :
    Calls Tryd.prog 13 #[.slice a n c] w fun e w' => e = .returned (.tuple #[.string T, .int .i64 0]) ∧ Below w.heap.size w w' := by
  refine (join_any a n c l w hS hc).mono ?_
  rintro e w' ⟨rfl, hb⟩
  have e1 : (⟨(joinR (ls l)).toArray⟩ : ByteArray) = T := ba_ext (by unfold joinR; rw [if_pos h, hT])
  exact ⟨by rw [h, e1], hb⟩
theorem join_num (a : Option Addr) (n c : Nat) (l : List ByteArray) (w : World) (hS : StrsAt w a n l) (hc : n ≤ c) (E : Int) (h : checkE (ls l) = E) (h0 : E ≠ 0) :
    Calls Tryd.prog 13 #[.slice a n c] w fun e w' => e = .returned (.tuple #[.string ⟨#[]⟩, .int .i64 E]) ∧ Below w.heap.size w w' := by
  refine (join_any a n c l w hS hc).mono ?_
  rintro e w' ⟨rfl, hb⟩
  have e1 : joinR (ls l) = [] := by unfold joinR; rw [if_neg (by rw [h]; exact h0)]
  exact ⟨by rw [h, e1], hb⟩

set_option maxHeartbeats 8000000 in
theorem walk_PathBack (s : ByteArray) (a : Option Addr) (n c : Nat) (l : List ByteArray) (w : World) (hs : s.size ≤ 1048576) (hS : StrsAt w a n l) (hc : n ≤ c) (hcm : c ≤ maxLen) (hz : ∀ x ∈ l, x.size ≤ 1048576) (hm : MaxAt w) :
    Calls Tryd.prog 6 #[.string s, .slice a n c] w fun e w' => e = .returned (.bool true) ∧ Below w.heap.size w w' := by
  have HM := hid hm; clear hm
  have hs9 : s.size < 4294967281 := by omega
  have hnn := hS.2.1
  have hTail : (100 < n) ∨ (n ≤ 100 ∧ checkE (ls l) = 0) ∨ (n ≤ 100 ∧ ∃ E, checkE (ls l) = E ∧ E ≠ 0) := by
    by_cases h1 : 100 < n
    · exact .inl h1
    · by_cases h2 : checkE (ls l) = 0
      · exact .inr (.inl ⟨by omega, h2⟩)
      · exact .inr (.inr ⟨by omega, _, rfl, h2⟩)
  have HTAIL := hid hTail; clear hTail
  by_cases h0 : splitE s.data.toList = 0
  · have hp := check_pieces h0
    have H0 := hid h0; clear h0
    go_enter Tryd.func6, Tryd.ntmps6
    go_wp2_with fail
    refine (awake_any _ HM.out).mono ?_; rintro e w1 ⟨rfl, hb1⟩
    go_wp2_with fail
    refine (split_yes s _ hs9 (HM.out.later hb1) H0.out).mono ?_; rintro e w2 ⟨pa, x, rfl, hx, hnx, hb2⟩
    have hB2 := below_then hb1 hb2
    have HG := hid hp.2.1
    have x1 : 1 ≤ x.length := by have h1 := List.length_pos_iff.2 hp.1; rw [← hnx, ls_length] at h1; omega
    have x2 : x.length ≤ 64 := by have h1 := hp.2.2; rw [← hnx, ls_length] at h1; omega
    have g1 : ¬ (x.length : Int) < 1 := by omega
    have g2 : ¬ (64 : Int) < x.length := by omega
    have HC : Hid (checkE (ls x) = 0) := by unfold Hid; rw [hnx]; exact H0.out
    have HJ : Hid (s.data.toList = joinL (ls x)) := by unfold Hid; rw [hnx, join_pieces]
    have HN := hid hnx
    clear hp hnx
    go_wp2_with fail
    refine (join_yes pa x.length x.length x _ hx (Nat.le_refl _) s HC.out HJ.out).mono ?_; rintro e w3 ⟨rfl, hb3⟩
    have hB3 := below_then hB2 hb3
    have hx3 := hx.later hb3
    clear hx hb1 hb2 hb3 hB2
    go_wp2_with fail
    go_loop [9] (fun i => ∃ k : Nat, k ≤ x.length ∧ i = .int .i64 k) (fun i => x.length - (intOf i).toNat)
    case atStart => exact ⟨0, by omega, rfl⟩
    case round =>
      obtain ⟨k, hk, rfl⟩ := hrel
      by_cases hlt : k < x.length
      · obtain ⟨b, off, rfl, hcc⟩ := hx3.2.2.resolve_left (by omega)
        have hck := hcc k hlt
        have hgo : goodL (x.getD k ByteArray.empty).data.toList = true := by
          refine HG.out _ ?_
          rw [← HN.out, ← ls_get x k (by rw [ls_length]; exact hlt)]; exact List.getElem_mem _
        obtain ⟨p, hp⟩ : ∃ p, x.getD k ByteArray.empty = p := ⟨_, rfl⟩
        rw [hp] at hck hgo
        clear hp hcc
        go_wp2_with (go_at_call 15; refine (pgood_any _ _).mono ?_; rw [hgo]; rintro e w5 ⟨rfl, rfl⟩)
        go_round
        case rel => exact ⟨k + 1, by omega, by go_num⟩
        case measure => simp [intOf]; omega
      · have hk' : k = x.length := by omega
        subst hk'
        rcases HTAIL.out with h1 | ⟨h1, h2⟩ | ⟨h1, E, h2, h3⟩
        · have g3 : (100 : Int) < n := by omega
          go_wp2_with fail
          go_ret
          exact ⟨rfl, hB3⟩
        · have g3 : ¬ (100 : Int) < n := by omega
          obtain ⟨j1, j2⟩ := split_join h2
          have jb := join_bound h2
          obtain ⟨T, hT⟩ : ∃ T : ByteArray, T.data.toList = joinL (ls l) := ⟨⟨(joinL (ls l)).toArray⟩, rfl⟩
          have hTs : T.size < 4294967281 := by
            have h4 : T.data.toList.length = T.size := Array.length_toList
            rw [hT] at h4; omega
          have HT := hid hT
          have HT0 : Hid (splitE T.data.toList = 0) := by unfold Hid; rw [hT]; exact j2
          have HTP : Hid (pieces T.data.toList = ls l) := by unfold Hid; rw [hT]; exact j1
          have H2 := hid h2
          clear j1 j2 jb hT h2
          go_wp2_with fail
          refine (join_yes a n c l _ (hS.later hB3) hc T H2.out HT.out).mono ?_; rintro e w4 ⟨rfl, hb4⟩
          have hB4 := below_then hB3 hb4
          go_wp2_with fail
          refine (split_yes T _ hTs (HM.out.later hB4) HT0.out).mono ?_; rintro e w5 ⟨qa, y, rfl, hy, hny, hb5⟩
          have hB5 := below_then hB4 hb5
          have HSAME : Hid (ls y = ls l) := hny.trans HTP.out
          clear hny
          go_wp2_with fail
          refine (same_any _ _ _ _ _ _ y l _ hy (hS.later hB5)).mono ?_; rintro e w6 ⟨rfl, hb6⟩
          go_wp2_with fail
          go_ret
          exact ⟨ret_bool (decide_eq_true HSAME.out), below_then hB5 hb6⟩
        · have g3 : ¬ (100 : Int) < n := by omega
          have e2 : (E != 0) = true := by simpa using h3
          have e3 : (E == 0) = false := by simpa using h3
          have H2 := hid h2; have H3 := hid h3
          clear h2 h3
          go_wp2_with fail
          refine (join_num a n c l _ (hS.later hB3) hc E H2.out H3.out).mono ?_; rintro e w4 ⟨rfl, hb4⟩
          have hB4 := below_then hB3 hb4
          go_wp2_with fail
          go_ret
          exact ⟨ret_bool (by rfl), hB4⟩
  · have H0 : Hid (∃ E, splitE s.data.toList = E ∧ E ≠ 0) := ⟨_, rfl, h0⟩
    clear h0
    go_enter Tryd.func6, Tryd.ntmps6
    go_wp2_with fail
    refine (awake_any _ HM.out).mono ?_; rintro e w1 ⟨rfl, hb1⟩
    go_wp2_with fail
    obtain ⟨E0, hE0, hE1⟩ := H0.out
    have e1 : (E0 == 0) = false := by simpa using hE1
    have HE0 := hid hE0
    clear hE0 hE1 H0
    refine (split_num s _ hs9 (HM.out.later hb1) E0 HE0.out).mono ?_; rintro e w3 ⟨pa, x, rfl, hb2⟩
    have hB3 := below_then hb1 hb2
    clear hb1 hb2
    rcases HTAIL.out with h1 | ⟨h1, h2⟩ | ⟨h1, E, h2, h3⟩
    · have g3 : (100 : Int) < n := by omega
      go_wp2_with fail
      go_ret
      exact ⟨rfl, hB3⟩
    · have g3 : ¬ (100 : Int) < n := by omega
      obtain ⟨j1, j2⟩ := split_join h2
      have jb := join_bound h2
      obtain ⟨T, hT⟩ : ∃ T : ByteArray, T.data.toList = joinL (ls l) := ⟨⟨(joinL (ls l)).toArray⟩, rfl⟩
      have hTs : T.size < 4294967281 := by
        have h4 : T.data.toList.length = T.size := Array.length_toList
        rw [hT] at h4; omega
      have HT := hid hT
      have HT0 : Hid (splitE T.data.toList = 0) := by unfold Hid; rw [hT]; exact j2
      have HTP : Hid (pieces T.data.toList = ls l) := by unfold Hid; rw [hT]; exact j1
      have H2 := hid h2
      clear j1 j2 jb hT h2
      go_wp2_with fail
      refine (join_yes a n c l _ (hS.later hB3) hc T H2.out HT.out).mono ?_; rintro e w4 ⟨rfl, hb4⟩
      have hB4 := below_then hB3 hb4
      go_wp2_with fail
      refine (split_yes T _ hTs (HM.out.later hB4) HT0.out).mono ?_; rintro e w5 ⟨qa, y, rfl, hy, hny, hb5⟩
      have hB5 := below_then hB4 hb5
      have HSAME : Hid (ls y = ls l) := hny.trans HTP.out
      clear hny
      go_wp2_with fail
      refine (same_any _ _ _ _ _ _ y l _ hy (hS.later hB5)).mono ?_; rintro e w6 ⟨rfl, hb6⟩
      go_wp2_with fail
      go_ret
      exact ⟨ret_bool (decide_eq_true HSAME.out), below_then hB5 hb6⟩
    · have g3 : ¬ (100 : Int) < n := by omega
      have e2 : (E != 0) = true := by simpa using h3
      have e3 : (E == 0) = false := by simpa using h3
      have H2 := hid h2; have H3 := hid h3
      clear h2 h3
      go_wp2_with fail
      refine (join_num a n c l _ (hS.later hB3) hc E H2.out H3.out).mono ?_; rintro e w4 ⟨rfl, hb4⟩
      have hB4 := below_then hB3 hb4
      go_wp2_with fail
      go_ret
      exact ⟨ret_bool (by rfl), hB4⟩

set_option maxHeartbeats 8000000 in
theorem walk_PathOrder (a b c : ByteArray) (w : World) (ha : a.size ≤ 1048576) (hb : b.size ≤ 1048576) (hc : c.size ≤ 1048576) (hm : MaxAt w) :
    Calls Tryd.prog 7 #[.string a, .string b, .string c] w fun e w' => e = .returned (.bool true) ∧ Below w.heap.size w w' := by
  have HM := hid hm; clear hm
  have ha' : a.size < 4294967281 := by omega
  have hb' : b.size < 4294967281 := by omega
  have hc' : c.size < 4294967281 := by omega
  obtain ⟨E, hE⟩ : ∃ E, splitE a.data.toList = E := ⟨_, rfl⟩
  obtain ⟨F, hF⟩ : ∃ F, splitE b.data.toList = F := ⟨_, rfl⟩
  obtain ⟨G, hG⟩ : ∃ G, splitE c.data.toList = G := ⟨_, rfl⟩
  have HE := hid hE; have HF := hid hF; have HG := hid hG
  by_cases h0 : E = 0 ∧ F = 0 ∧ G = 0
  · obtain ⟨rfl, rfl, rfl⟩ := h0
    obtain ⟨o1, o2, o3, o4, o5⟩ := order_one hE hF hG
    clear hE hF hG
    obtain ⟨x, hx⟩ : ∃ x, compareR a.data.toList b.data.toList = x := ⟨_, rfl⟩
    obtain ⟨y, hy⟩ : ∃ y, compareR b.data.toList c.data.toList = y := ⟨_, rfl⟩
    obtain ⟨z, hz⟩ : ∃ z, compareR a.data.toList c.data.toList = z := ⟨_, rfl⟩
    obtain ⟨p, hp⟩ : ∃ p, withinR a.data.toList b.data.toList = p := ⟨_, rfl⟩
    obtain ⟨q, hq⟩ : ∃ q, withinR a.data.toList c.data.toList = q := ⟨_, rfl⟩
    rw [hx] at o1 o2 o3 o4 o5
    rw [hy] at o3 o5
    rw [hz] at o3
    rw [hp] at o4 o5
    rw [hq] at o5
    have hab : (a.toList == b.toList) = (x == 0) := by
      rw [ba_toList, ba_toList, Bool.eq_iff_iff, beq_iff_eq, beq_iff_eq]; exact o2.symm
    have hr1 : -1 ≤ x := by
      rw [← hx]; unfold compareR; split
      · have := cmpP_range (pieces a.data.toList) (pieces b.data.toList); omega
      · omega
    have hr2 : x ≤ 1 := by
      rw [← hx]; unfold compareR; split
      · have := cmpP_range (pieces a.data.toList) (pieces b.data.toList); omega
      · omega
    have CX : Hid (∀ W, MaxAt W → Calls Tryd.prog 18 #[.string a, .string b] W fun e w' => e = .returned (.int .i64 x) ∧ Below W.heap.size W w') := fun W hW => by rw [← hx]; exact compare_any a b W ha' hb' hW
    have CY : Hid (∀ W, MaxAt W → Calls Tryd.prog 18 #[.string b, .string c] W fun e w' => e = .returned (.int .i64 y) ∧ Below W.heap.size W w') := fun W hW => by rw [← hy]; exact compare_any b c W hb' hc' hW
    have CZ : Hid (∀ W, MaxAt W → Calls Tryd.prog 18 #[.string a, .string c] W fun e w' => e = .returned (.int .i64 z) ∧ Below W.heap.size W w') := fun W hW => by rw [← hz]; exact compare_any a c W ha' hc' hW
    have CN : Hid (∀ W, MaxAt W → Calls Tryd.prog 18 #[.string b, .string a] W fun e w' => e = .returned (.int .i64 (-x)) ∧ Below W.heap.size W w') := fun W hW => by rw [← o1]; exact compare_any b a W hb' ha' hW
    have CP : Hid (∀ W, MaxAt W → Calls Tryd.prog 20 #[.string a, .string b] W fun e w' => e = .returned (.bool p) ∧ Below W.heap.size W w') := fun W hW => by rw [← hp]; exact within_any a b W ha' hb' hW
    have CQ : Hid (∀ W, MaxAt W → Calls Tryd.prog 20 #[.string a, .string c] W fun e w' => e = .returned (.bool q) ∧ Below W.heap.size W w') := fun W hW => by rw [← hq]; exact within_any a c W ha' hc' hW
    have HO2 : Hid (x = 0 → a = b) := fun e => ba_ext (o2.1 e)
    have hneq : (x != 0) = !(x == 0) := rfl
    have O3 := hid o3
    have O4 := hid o4
    have O5 : Hid (q = true → x ≤ 0 → y ≤ 0 → x ≠ 0 → p = true) := fun h1 h2 h3 h4 => o5 h1 h2 h3 (fun e => h4 (o2.2 e))
    have HAB := hid hab
    clear o1 o2 o3 o4 o5 hx hy hz hp hq hneq hab
    have hcase : (x = 0 ∨ (x ≤ 0 ∧ x ≠ 0) ∨ (0 < x)) := by omega
    have HCASE := hid hcase; clear hcase
    have main : ∀ (hx0 : (x == 0) = true ∨ (x == 0) = false), True := fun _ => trivial
    clear main
    go_enter Tryd.func7, Tryd.ntmps7
    go_wp2_with fail
    refine (awake_any _ HM.out).mono ?_; rintro e w1 ⟨rfl, hb1⟩
    go_wp2_with fail
    refine (split_num a _ ha' (HM.out.later hb1) 0 HE.out).mono ?_; rintro e w2 ⟨a1, l1, rfl, hb2⟩
    replace hb1 := below_then hb1 hb2; clear hb2
    go_wp2_with fail
    refine (split_num b _ hb' (HM.out.later hb1) 0 HF.out).mono ?_; rintro e w3 ⟨a2, l2, rfl, hb2⟩
    replace hb1 := below_then hb1 hb2; clear hb2
    go_wp2_with fail
    refine (split_num c _ hc' (HM.out.later hb1) 0 HG.out).mono ?_; rintro e w4 ⟨a3, l3, rfl, hb2⟩
    replace hb1 := below_then hb1 hb2; clear hb2
    go_wp2_with fail
    refine (CX.out _ (HM.out.later hb1)).mono ?_; rintro e w5 ⟨rfl, hb2⟩
    replace hb1 := below_then hb1 hb2; clear hb2
    go_wp2_with fail
    refine (CY.out _ (HM.out.later hb1)).mono ?_; rintro e w6 ⟨rfl, hb2⟩
    replace hb1 := below_then hb1 hb2; clear hb2
    go_wp2_with fail
    refine (CZ.out _ (HM.out.later hb1)).mono ?_; rintro e w7 ⟨rfl, hb2⟩
    replace hb1 := below_then hb1 hb2; clear hb2
    go_wp2_with fail
    refine (CN.out _ (HM.out.later hb1)).mono ?_; rintro e w8 ⟨rfl, hb2⟩
    replace hb1 := below_then hb1 hb2; clear hb2
    rcases HCASE.out with hx0 | ⟨hx1, hx2⟩ | hx1
    · have hab := HO2.out hx0
      subst hx0
      have hab2 : (a.toList == b.toList) = true := by rw [hab]; simp
      have p0 : p = false := by
        cases hp : p
        · rfl
        · exact absurd (O4.out hp) (by omega)
      subst p0
      clear hab
      go_wp2_with (first
          | (go_at_call 20; ((with_reducible refine (CP.out _ (HM.out.later hb1)).mono ?_); rintro e w5 ⟨rfl, hb5⟩); replace hb1 := below_then hb1 hb5; clear hb5)
          | (go_at_call 20; ((with_reducible refine (CQ.out _ (HM.out.later hb1)).mono ?_); rintro e w5 ⟨rfl, hb5⟩); replace hb1 := below_then hb1 hb5; clear hb5))
      all_goals go_ret
      all_goals refine ⟨ret_bool ?_, hb1⟩
      all_goals first
        | rfl
        | (have o3 := O3.out; have o5 := O5.out; clear O3 O4 O5 CP CQ CX CY CZ CN HE HF HG HM; simp_all; done)
        | (have o3 := O3.out; have o5 := O5.out; clear O3 O4 O5 CP CQ CX CY CZ CN HE HF HG HM; simp_all; omega)
    · have hab2 : (a.toList == b.toList) = false := by rw [HAB.out]; simpa using hx2
      have x1 : (x == 0) = false := by simpa using hx2
      obtain rfl : x = -1 := by omega
      clear hx2 x1 hr1 hr2 hx1
      cases p
      · go_wp2_with (first
          | (go_at_call 20; ((with_reducible refine (CP.out _ (HM.out.later hb1)).mono ?_); rintro e w5 ⟨rfl, hb5⟩); replace hb1 := below_then hb1 hb5; clear hb5)
          | (go_at_call 20; ((with_reducible refine (CQ.out _ (HM.out.later hb1)).mono ?_); rintro e w5 ⟨rfl, hb5⟩); replace hb1 := below_then hb1 hb5; clear hb5))
        all_goals go_ret
        all_goals refine ⟨ret_bool ?_, hb1⟩
        all_goals first
          | rfl
          | (have o3 := O3.out; have o5 := O5.out; clear O3 O4 O5 CP CQ CX CY CZ CN HE HF HG HM; simp_all; done)
          | (have o3 := O3.out; have o5 := O5.out; clear O3 O4 O5 CP CQ CX CY CZ CN HE HF HG HM; simp_all; omega)
      · go_wp2_with (first
          | (go_at_call 20; ((with_reducible refine (CP.out _ (HM.out.later hb1)).mono ?_); rintro e w5 ⟨rfl, hb5⟩); replace hb1 := below_then hb1 hb5; clear hb5)
          | (go_at_call 20; ((with_reducible refine (CQ.out _ (HM.out.later hb1)).mono ?_); rintro e w5 ⟨rfl, hb5⟩); replace hb1 := below_then hb1 hb5; clear hb5))
        all_goals go_ret
        all_goals refine ⟨ret_bool ?_, hb1⟩
        all_goals first
          | rfl
          | (have o3 := O3.out; have o5 := O5.out; clear O3 O4 O5 CP CQ CX CY CZ CN HE HF HG HM; simp_all; done)
          | (have o3 := O3.out; have o5 := O5.out; clear O3 O4 O5 CP CQ CX CY CZ CN HE HF HG HM; simp_all; omega)
    · have hx2 : x ≠ 0 := by omega
      have hab2 : (a.toList == b.toList) = false := by rw [HAB.out]; simpa using hx2
      obtain rfl : x = 1 := by omega
      have p0 : p = false := by
        cases hp : p
        · rfl
        · exact absurd (O4.out hp) (by omega)
      subst p0
      clear hx2 hr1 hr2 hx1
      go_wp2_with (first
          | (go_at_call 20; ((with_reducible refine (CP.out _ (HM.out.later hb1)).mono ?_); rintro e w5 ⟨rfl, hb5⟩); replace hb1 := below_then hb1 hb5; clear hb5)
          | (go_at_call 20; ((with_reducible refine (CQ.out _ (HM.out.later hb1)).mono ?_); rintro e w5 ⟨rfl, hb5⟩); replace hb1 := below_then hb1 hb5; clear hb5))
      all_goals go_ret
      all_goals refine ⟨ret_bool ?_, hb1⟩
      all_goals first
        | rfl
        | (have o3 := O3.out; have o5 := O5.out; clear O3 O4 O5 CP CQ CX CY CZ CN HE HF HG HM; simp_all; done)
        | (have o3 := O3.out; have o5 := O5.out; clear O3 O4 O5 CP CQ CX CY CZ CN HE HF HG HM; simp_all; omega)
  · clear hE hF hG
    have H0 := hid h0
    go_enter Tryd.func7, Tryd.ntmps7
    go_wp2_with fail
    refine (awake_any _ HM.out).mono ?_; rintro e w1 ⟨rfl, hb1⟩
    go_wp2_with fail
    refine (split_num a _ ha' (HM.out.later hb1) E HE.out).mono ?_; rintro e w2 ⟨a1, l1, rfl, hb2⟩
    replace hb1 := below_then hb1 hb2; clear hb2
    go_wp2_with fail
    refine (split_num b _ hb' (HM.out.later hb1) F HF.out).mono ?_; rintro e w3 ⟨a2, l2, rfl, hb2⟩
    replace hb1 := below_then hb1 hb2; clear hb2
    go_wp2_with fail
    refine (split_num c _ hc' (HM.out.later hb1) G HG.out).mono ?_; rintro e w4 ⟨a3, l3, rfl, hb2⟩
    replace hb1 := below_then hb1 hb2; clear hb2
    have h1 : E ≠ 0 ∨ (E = 0 ∧ F ≠ 0) ∨ (E = 0 ∧ F = 0 ∧ G ≠ 0) := by omega
    clear HE HF HG h0
    rcases h1 with h1 | ⟨rfl, h1⟩ | ⟨rfl, rfl, h1⟩
    · have e1 : (E != 0) = true := by simpa using h1
      clear h1 H0
      go_wp2_with fail
      go_ret
      exact ⟨rfl, hb1⟩
    · have e1 : (F != 0) = true := by simpa using h1
      clear h1 H0
      go_wp2_with fail
      go_ret
      exact ⟨rfl, hb1⟩
    · have e1 : (G != 0) = true := by simpa using h1
      clear h1 H0
      go_wp2_with fail
      go_ret
      exact ⟨rfl, hb1⟩
end Go.Proofs.YtfgglckpfnnaoaaDoor
