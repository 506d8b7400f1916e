/- The law PathChecks, walked for texts of every size: it bounds them itself. -/
import Derived.Test.YtfgglckpfnnaoaaDoorPathLawA
namespace Go.Proofs.YtfgglckpfnnaoaaDoor
open Go.RowKit Pap
set_option linter.unusedVariables false

set_option maxHeartbeats 8000000 in
theorem walk_PathChecksFull (a : Option Addr) (n c : Nat) (l : List ByteArray) (w : World) (hS : StrsAt w a n l) (hc : n ≤ c) (hcm : c ≤ maxLen) (hm : MaxAt w) :
    Calls Tryd.prog 5 #[.slice a n c] w fun e w' => e = .returned (.bool true) ∧ Below w.heap.size w w' := by
  have HM := hid hm; clear hm
  have hnl := hS.1
  have hn := hS.2.1
  by_cases h60 : 60 < n
  · have g1 : (60 : Int) < n := by omega
    go_enter Tryd.func5, Tryd.ntmps5
    go_wp2_with fail
    refine (awake_any _ HM.out).mono ?_; rintro e w1 ⟨rfl, hb1⟩
    go_wp2_with fail
    go_ret
    exact ⟨rfl, hb1⟩
  · have g1 : ¬ (60 : Int) < n := by omega
    go_enter Tryd.func5, Tryd.ntmps5
    go_wp2_with fail
    refine (awake_any _ HM.out).mono ?_; rintro e w1 ⟨rfl, hb1⟩
    go_wp2_with fail
    have hS1 := hS.later hb1
    go_loop [3] (fun i => ∃ k : Nat, k ≤ n ∧ i = .int .i64 k ∧ Hid (∀ j, j < k → (l.getD j ByteArray.empty).size ≤ 2000)) (fun i => n - (intOf i).toNat)
    case atStart => exact ⟨0, by omega, rfl, fun j hj => absurd hj (Nat.not_lt_zero _)⟩
    case round =>
      obtain ⟨k, hk, rfl, HK⟩ := hrel
      by_cases hlt : k < n
      · obtain ⟨b, off, rfl, hcc⟩ := hS1.2.2.resolve_left (by omega)
        have hck := hcc k hlt
        have HU : Hid ((l.getD k ByteArray.empty).size ≤ 2000 → ∀ j, j < k + 1 → (l.getD j ByteArray.empty).size ≤ 2000) := fun h => upto_succ HK.out h
        obtain ⟨p, hp⟩ : ∃ p, l.getD k ByteArray.empty = p := ⟨_, rfl⟩
        rw [hp] at hck HU
        clear hp hcc
        by_cases h2 : 2000 < p.size
        · have g2 : (2000 : Int) < p.size := by omega
          go_wp2
          go_ret
          exact ⟨rfl, hb1⟩
        · have g2 : ¬ (2000 : Int) < p.size := by omega
          have HN := hid (HU.out (by omega))
          clear HU
          go_wp2
          go_round
          case rel => exact ⟨k + 1, by omega, by go_num, HN⟩
          case measure => simp [intOf]; omega
      · have hz : ∀ x ∈ l, x.size ≤ 2000 := fun x hx => by
          obtain ⟨j, hj, rfl⟩ := List.getElem_of_mem hx
          have := HK.out j (by omega)
          rwa [List.getD_eq_getElem?_getD, List.getElem?_eq_getElem hj] at this
        have cP := pcheck_any a n c l w1 hS1 hc hcm (fun x hx => Nat.lt_of_le_of_lt (hz x hx) (by decide)) (HM.out.later hb1)
        have cR : ∀ W, Below w1.heap.size w1 W → Calls Tryd.prog 23 #[.slice a n c] W fun e w' => e = .returned (.tuple #[.int .i64 (checkR (ls l)).1, .int .i64 (checkR (ls l)).2]) ∧ Below W.heap.size W w' := fun W hW => rcheck_any a n c l W (hS1.later hW) (fun x hx => Nat.le_trans (hz x hx) (by decide))
        obtain ⟨A, hA⟩ : ∃ A, (checkR (ls l)).1 = A := ⟨_, rfl⟩
        obtain ⟨B, hB⟩ : ∃ B, (checkR (ls l)).2 = B := ⟨_, rfl⟩
        rw [hA, hB] at cP cR
        have CP := hid cP; have CR := hid cR
        clear cP cR hA hB hz
        go_wp2_with fail
        refine CP.out.mono ?_; rintro e w2 ⟨rfl, hb2⟩
        go_wp2_with fail
        refine (CR.out _ hb2).mono ?_; rintro e w3 ⟨rfl, hb3⟩
        go_wp2_with fail
        all_goals go_ret
        all_goals exact ⟨ret_bool (by first | rfl | simp), below_then (below_then hb1 hb2) hb3⟩
end Go.Proofs.YtfgglckpfnnaoaaDoor
