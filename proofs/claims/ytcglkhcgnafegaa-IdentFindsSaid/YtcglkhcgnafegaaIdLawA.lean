/- The walks of the statements IdentWrites, IdentFinds. -/
import Derived.Test.YtcglkhcgnafegaaIdWalkI
namespace Go.Proofs.Ytcglkhcgnafegaa
open Go.RowKit Idp
set_option linter.unusedVariables false

set_option maxHeartbeats 2000000 in
theorem walk_IdentWrites (id s : ByteArray) (at' : Int) (w : World) :
    Calls Try.prog 7 #[.string id, .string s, .int .i64 at'] w fun e w' => e = .returned (.bool true) ∧ Below w.heap.size w w' := by
  obtain ⟨U, hU⟩ : ∃ U, (⟨(unhexR s).1.toArray⟩ : ByteArray) = U := ⟨_, rfl⟩
  obtain ⟨V, hV⟩ : ∃ V, (unhexR s).2 = V := ⟨_, rfl⟩
  have c1 : ∀ w, Calls Try.prog 18 #[.string s] w fun e w' => e = .returned (.tuple #[.string U, .int .i64 V]) ∧ Below w.heap.size w w' := fun w => by
    rw [← hU, ← hV]; exact unhex_any s w
  have c2 : ∀ w, Calls Try.prog 19 #[.string s] w fun e w' => e = .returned (.tuple #[.string U, .int .i64 V]) ∧ Below w.heap.size w w' := fun w => by
    rw [← hU, ← hV]; exact unhexR_any s w
  have C1 := hid c1; have C2 := hid c2
  clear c1 c2 hU hV
  go_enter Try.func7, Try.ntmps7
  go_wp2_with (first
    | (go_at_call 9; refine (awake_any _).mono ?_; rintro e w1 ⟨rfl, hb1⟩)
    | (go_at_call 18; refine (C1.out _).mono ?_; rintro e w2 ⟨rfl, hb2⟩)
    | (go_at_call 19; refine (C2.out _).mono ?_; rintro e w3 ⟨rfl, hb3⟩)
    | (go_at_call 20; refine (good_any _ _).mono ?_; rintro e w' ⟨rfl, rfl⟩)
    | (go_at_call 21; refine (goodR_any _ _).mono ?_; rintro e w' ⟨rfl, rfl⟩)
    | (go_at_call 15; refine (hex_any _ _).mono ?_; rintro e w4 ⟨rfl, hb4⟩)
    | (go_at_call 22; refine (hexR_any _ _).mono ?_; rintro e w5 ⟨rfl, hb5⟩)
    | (go_at_call 17; refine (digit_any _ _ _).mono ?_; rintro e w' ⟨rfl, rfl⟩)
    | (go_at_call 23; refine (digitR_any _ _ _).mono ?_; rintro e w' ⟨rfl, rfl⟩)
    | (go_at_call 16; refine (has_any _ _ _).mono ?_; rintro e w6 ⟨rfl, hb6⟩)
    | (go_at_call 24; refine (hasR_any _ _ _).mono ?_; rintro e w' ⟨rfl, rfl⟩)
    | (go_at_call 14; refine (share_any _ _ _).mono ?_; rintro e w' ⟨rfl, rfl⟩)
    | (go_at_call 25; refine (shareR_any _ _ _).mono ?_; rintro e w' ⟨rfl, rfl⟩))
  go_ret
  exact ⟨rfl, below_then (below_then (below_then (below_then (below_then hb1 hb2) hb3) hb4) hb5) hb6⟩

set_option maxHeartbeats 2000000 in
theorem walk_IdentFinds (a : Option Addr) (n c : Nat) (l : List ByteArray) (d id : ByteArray) (w : World) (hS : StrsAt w a n l) :
    Calls Try.prog 3 #[.slice a n c, .string d, .string id] w fun e w' => e = .returned (.bool true) ∧ Below w.heap.size w w' := by
  by_cases hn : n ≤ 200
  · obtain ⟨U, hU⟩ : ∃ U, (findR l d.data.toList).1 = U := ⟨_, rfl⟩
    obtain ⟨V, hV⟩ : ∃ V, (findR l d.data.toList).2 = V := ⟨_, rfl⟩
    have c1 : ∀ w, StrsAt w a n l → Calls Try.prog 10 #[.slice a n c, .string d] w fun e w' => e = .returned (.tuple #[.string U, .int .i64 V]) ∧ Below w.heap.size w w' := fun w hS => by
      rw [← hU, ← hV]; exact find_any a n c l d w hS (by omega)
    have c2 : ∀ w, StrsAt w a n l → Calls Try.prog 11 #[.slice a n c, .string d] w fun e w' => e = .returned (.tuple #[.string U, .int .i64 V]) ∧ w = w' := fun w hS => by
      rw [← hU, ← hV]; exact findR_any a n c l d w hS
    have C1 := hid c1; have C2 := hid c2
    clear c1 c2 hU hV
    have hn' : ¬ (200 : Int) < (n : Int) := by omega
    go_enter Try.func3, Try.ntmps3
    go_wp2_with fail
    refine (awake_any _).mono ?_; rintro e w1 ⟨rfl, hb1⟩
    have hS1 := hS.later hb1
    go_wp2_with fail
    refine (C1.out _ hS1).mono ?_; rintro e w2 ⟨rfl, hb2⟩
    have hS2 := hS1.later hb2
    go_wp2_with fail
    refine (C2.out _ hS2).mono ?_; rintro e w3 ⟨rfl, rfl⟩
    go_wp2_with fail
    refine (short_any _ _ _ _ _ _ hS2).mono ?_; rintro e w3 ⟨rfl, hb3⟩
    have hS3 := hS2.later hb3
    go_wp2_with fail
    refine (shortRef_any _ _ _ _ _ _ hS3).mono ?_; rintro e w4 ⟨rfl, hb4⟩
    go_wp2
    go_ret
    exact ⟨rfl, below_then (below_then (below_then hb1 hb2) hb3) hb4⟩
  · have hn' : (200 : Int) < (n : Int) := by omega
    go_enter Try.func3, Try.ntmps3
    go_wp2_with (go_at_call 9; refine (awake_any _).mono ?_; rintro e w1 ⟨rfl, hb1⟩)
    go_ret
    exact ⟨rfl, hb1⟩
end Go.Proofs.Ytcglkhcgnafegaa
