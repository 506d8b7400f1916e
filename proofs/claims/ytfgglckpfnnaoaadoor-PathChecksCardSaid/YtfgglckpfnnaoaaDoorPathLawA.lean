/- The walks of PathSplits, PathOrders, PathChecks. -/
import Derived.Test.YtfgglckpfnnaoaaDoorPathWake
namespace Go.Proofs.YtfgglckpfnnaoaaDoor
open Go.RowKit Pap
set_option linter.unusedVariables false

set_option maxHeartbeats 8000000 in
theorem walk_PathSplits (s : ByteArray) (a : Option Addr) (n c : Nat) (l : List ByteArray) (w : World) (hs : s.size ≤ 1048576) (hS : StrsAt w a n l) (hc : n ≤ c) (hcm : c ≤ maxLen) (hz : ∀ x ∈ l, x.size ≤ 1048576) (hm : MaxAt w) :
    Calls Tryd.prog 3 #[.string s, .slice a n c] w fun e w' => e = .returned (.bool true) ∧ Below w.heap.size w w' := by
  have HM := hid hm; clear hm
  have hs9 : s.size ≤ 9223372036854775807 := by omega
  by_cases h200 : 200 < n
  · have g1 : (200 : Int) < n := by omega
    go_enter Tryd.func3, Tryd.ntmps3
    go_wp2_with fail
    refine (awake_any _ HM.out).mono ?_; rintro e w1 ⟨rfl, hb1⟩
    go_wp2_with fail
    go_ret
    exact ⟨rfl, hb1⟩
  · have g1 : ¬ (200 : Int) < n := by omega
    go_enter Tryd.func3, Tryd.ntmps3
    go_wp2_with fail
    refine (awake_any _ HM.out).mono ?_; rintro e w1 ⟨rfl, hb1⟩
    go_wp2_with fail
    refine (split_any s _ (by omega) (HM.out.later hb1)).mono ?_; rintro e w2 ⟨v, rfl, ⟨pa, pc, x, rfl, hx, hnx, -⟩, hb2⟩
    have hB2 := below_then hb1 hb2
    go_wp2_with fail
    refine (rsplit_any s _ hs).mono ?_; rintro e w3 ⟨v, rfl, ⟨qa, qc, y, rfl, hy, hny, -⟩, hb3⟩
    have hB3 := below_then hB2 hb3
    go_wp2_with fail
    refine (join_any a n c l _ (hS.later hB3) hc).mono ?_; rintro e w4 ⟨rfl, hb4⟩
    have hB4 := below_then hB3 hb4
    go_wp2_with fail
    refine (rjoin_any a n c l _ (hS.later hB4) (fun x hx => Nat.le_trans (hz x hx) (by omega))).mono ?_; rintro e w5 ⟨rfl, rfl⟩
    have hx4 := (hx.later hb3).later hb4
    have hy4 := hy.later hb4
    have HSAME : Hid (ls x = ls y) := hnx.trans hny.symm
    clear hx hy hb1 hb2 hb3 hB2 hB3 hnx hny
    obtain ⟨J, hJ⟩ : ∃ J, (⟨(joinR (ls l)).toArray⟩ : ByteArray) = J := ⟨_, rfl⟩
    obtain ⟨E, hE⟩ : ∃ E, checkE (ls l) = E := ⟨_, rfl⟩
    obtain ⟨F, hF⟩ : ∃ F, splitE s.data.toList = F := ⟨_, rfl⟩
    rw [hJ, hE, hF]
    clear hJ hE hF
    have cS : ∀ z : After w4, Calls Tryd.prog 17 #[.slice pa x.length pc, .slice qa y.length qc] z.val fun e w' => e = .returned (.bool true) ∧ Below z.val.heap.size z.val w' := fun z => by
      refine (same_any _ _ _ _ _ _ x y z.val (hx4.later z.below) (hy4.later z.below)).mono ?_
      rintro e w' ⟨rfl, hb⟩
      exact ⟨ret_bool (decide_eq_true HSAME.out), hb⟩
    have CS := hid cS; clear cS
    have HB := Below.refl w4.heap.size w4
    clear hs hz
    go_wp2_with (first
      | (go_at_call 15; refine (pgood_any _ _).mono ?_; rintro e w5 ⟨rfl, rfl⟩)
      | (go_at_call 16; refine (rgood_any _ _ (by assumption)).mono ?_; rintro e w5 ⟨rfl, rfl⟩)
      | (go_at_call 17; refine (CS.out ⟨_, HB⟩).mono ?_; rintro e w5 ⟨rfl, hb5⟩; replace HB := below_then HB hb5; clear hb5))
    all_goals go_ret
    all_goals exact ⟨ret_bool (by first | rfl | simp), below_then hB4 HB⟩

set_option maxHeartbeats 8000000 in
theorem walk_PathOrders (a b : ByteArray) (w : World) (ha : a.size ≤ 1048576) (hb : b.size ≤ 1048576) (hm : MaxAt w) :
    Calls Tryd.prog 4 #[.string a, .string b] w fun e w' => e = .returned (.bool true) ∧ Below w.heap.size w w' := by
  have HM := hid hm; clear hm
  go_enter Tryd.func4, Tryd.ntmps4
  go_wp2_with fail
  refine (awake_any _ HM.out).mono ?_; rintro e w1 ⟨rfl, hb1⟩
  have ha' : a.size < 4294967281 := by omega
  have hb' : b.size < 4294967281 := by omega
  go_wp2_with (first
    | (go_at_call 18; refine (compare_any _ _ _ ha' hb' (HM.out.later hb1)).mono ?_; rintro e w5 ⟨rfl, hb5⟩; replace hb1 := below_then hb1 hb5; clear hb5)
    | (go_at_call 19; refine (rcompare_any _ _ _ ha hb).mono ?_; rintro e w5 ⟨rfl, hb5⟩; replace hb1 := below_then hb1 hb5; clear hb5)
    | (go_at_call 20; refine (within_any _ _ _ ha' hb' (HM.out.later hb1)).mono ?_; rintro e w5 ⟨rfl, hb5⟩; replace hb1 := below_then hb1 hb5; clear hb5)
    | (go_at_call 21; refine (rwithin_any _ _ _ ha hb).mono ?_; rintro e w5 ⟨rfl, hb5⟩; replace hb1 := below_then hb1 hb5; clear hb5))
  all_goals go_ret
  all_goals exact ⟨ret_bool (by first | rfl | simp), hb1⟩

set_option maxHeartbeats 8000000 in
theorem walk_PathChecks (a : Option Addr) (n c : Nat) (l : List ByteArray) (w : World) (hS : StrsAt w a n l) (hc : n ≤ c) (hcm : c ≤ maxLen) (hzz : ∀ x ∈ l, x.size ≤ 1048576) (hm : MaxAt w) :
    Calls Tryd.prog 5 #[.slice a n c] w fun e w' => e = .returned (.bool true) ∧ Below w.heap.size w w' := by
  have HM := hid hm; clear hm
  have hnl := hS.1
  have hn := hS.2.1
  by_cases h60 : 60 < n
  · have g1 : (60 : Int) < n := by omega
    go_enter Tryd.func5, Tryd.ntmps5
    go_wp2_with fail
    refine (awake_any _ HM.out).mono ?_; rintro e w1 ⟨rfl, hb1⟩
    go_wp2_with fail
    go_ret
    exact ⟨rfl, hb1⟩
  · have g1 : ¬ (60 : Int) < n := by omega
    go_enter Tryd.func5, Tryd.ntmps5
    go_wp2_with fail
    refine (awake_any _ HM.out).mono ?_; rintro e w1 ⟨rfl, hb1⟩
    go_wp2_with fail
    have hS1 := hS.later hb1
    go_loop [3] (fun i => ∃ k : Nat, k ≤ n ∧ i = .int .i64 k ∧ Hid (∀ j, j < k → (l.getD j ByteArray.empty).size ≤ 2000)) (fun i => n - (intOf i).toNat)
    case atStart => exact ⟨0, by omega, rfl, fun j hj => absurd hj (Nat.not_lt_zero _)⟩
    case round =>
      obtain ⟨k, hk, rfl, HK⟩ := hrel
      by_cases hlt : k < n
      · obtain ⟨b, off, rfl, hcc⟩ := hS1.2.2.resolve_left (by omega)
        have hck := hcc k hlt
        have HU : Hid ((l.getD k ByteArray.empty).size ≤ 2000 → ∀ j, j < k + 1 → (l.getD j ByteArray.empty).size ≤ 2000) := fun h => upto_succ HK.out h
        obtain ⟨p, hp⟩ : ∃ p, l.getD k ByteArray.empty = p := ⟨_, rfl⟩
        rw [hp] at hck HU
        clear hp hcc
        by_cases h2 : 2000 < p.size
        · have g2 : (2000 : Int) < p.size := by omega
          go_wp2
          go_ret
          exact ⟨rfl, hb1⟩
        · have g2 : ¬ (2000 : Int) < p.size := by omega
          have HN := hid (HU.out (by omega))
          clear HU
          go_wp2
          go_round
          case rel => exact ⟨k + 1, by omega, by go_num, HN⟩
          case measure => simp [intOf]; omega
      · have hz : ∀ x ∈ l, x.size ≤ 2000 := fun x hx => by
          obtain ⟨j, hj, rfl⟩ := List.getElem_of_mem hx
          have := HK.out j (by omega)
          rwa [List.getD_eq_getElem?_getD, List.getElem?_eq_getElem hj] at this
        have cP := pcheck_any a n c l w1 hS1 hc hcm (fun x hx => Nat.lt_of_le_of_lt (hz x hx) (by decide)) (HM.out.later hb1)
        have cR : ∀ W, Below w1.heap.size w1 W → Calls Tryd.prog 23 #[.slice a n c] W fun e w' => e = .returned (.tuple #[.int .i64 (checkR (ls l)).1, .int .i64 (checkR (ls l)).2]) ∧ Below W.heap.size W w' := fun W hW => rcheck_any a n c l W (hS1.later hW) (fun x hx => Nat.le_trans (hz x hx) (by decide))
        obtain ⟨A, hA⟩ : ∃ A, (checkR (ls l)).1 = A := ⟨_, rfl⟩
        obtain ⟨B, hB⟩ : ∃ B, (checkR (ls l)).2 = B := ⟨_, rfl⟩
        rw [hA, hB] at cP cR
        have CP := hid cP; have CR := hid cR
        clear cP cR hA hB hz
        go_wp2_with fail
        refine CP.out.mono ?_; rintro e w2 ⟨rfl, hb2⟩
        go_wp2_with fail
        refine (CR.out _ hb2).mono ?_; rintro e w3 ⟨rfl, hb3⟩
        go_wp2_with fail
        all_goals go_ret
        all_goals exact ⟨ret_bool (by first | rfl | simp), below_then (below_then hb1 hb2) hb3⟩
end Go.Proofs.YtfgglckpfnnaoaaDoor
