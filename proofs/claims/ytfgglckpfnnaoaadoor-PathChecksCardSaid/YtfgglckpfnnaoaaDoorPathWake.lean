/- The law's own test of some answers: it is true. -/
import Derived.Test.YtfgglckpfnnaoaaDoorPathRefE
namespace Go.Proofs.YtfgglckpfnnaoaaDoor
open Go.RowKit Pap
set_option linter.unusedVariables false

theorem wk_split1 (W : World) (hM : MaxAt W) : Calls Tryd.prog 11 #[.string ⟨#[97, 47, 98]⟩] W fun e w' => ∃ b o c, e = .returned (.tuple #[.slice (some ⟨b, o, none⟩) 2 c, .int .i64 0]) ∧ StrsAt w' (some ⟨b, o, none⟩) 2 [⟨#[97]⟩, ⟨#[98]⟩] ∧ Below W.heap.size W w' := by
  refine (split_any _ W (by decide) hM).mono ?_
  rintro e w' ⟨v, rfl, ⟨a, c, l, rfl, hs, hn, -⟩, hb⟩
  have e1 : splitE (⟨#[97, 47, 98]⟩ : ByteArray).data.toList = 0 := by decide +kernel
  have e2 : namesOf (⟨#[97, 47, 98]⟩ : ByteArray).data.toList = ls [⟨#[97]⟩, ⟨#[98]⟩] := by decide +kernel
  rw [e2] at hn
  have hl : l = [⟨#[97]⟩, ⟨#[98]⟩] := by
    match l, hn with
    | [x, y], h =>
      simp only [ls, List.map_cons, List.map_nil, List.cons.injEq, and_true] at h
      rw [ba_ext (x := x) (y := ⟨#[97]⟩) h.1, ba_ext (x := y) (y := ⟨#[98]⟩) h.2]
    | [], h => simp [ls] at h
    | [x], h => simp [ls] at h
    | x :: y :: z :: r, h => simp [ls] at h
  subst hl
  obtain ⟨b, o, rfl, hc⟩ := hs.2.2.resolve_left (by decide)
  exact ⟨b, o, c, by rw [e1]; rfl, hs, hb⟩
theorem wk_split2 (W : World) (hM : MaxAt W) : Calls Tryd.prog 11 #[.string ⟨#[97, 47, 47, 98]⟩] W fun e w' => ∃ v, e = .returned (.tuple #[v, .int .i64 30]) ∧ Below W.heap.size W w' := by
  refine (split_any _ W (by decide) hM).mono ?_
  rintro e w' ⟨v, rfl, -, hb⟩
  have e1 : splitE (⟨#[97, 47, 47, 98]⟩ : ByteArray).data.toList = 30 := by decide +kernel
  exact ⟨v, by rw [e1], hb⟩
theorem wk_strs2 (w : World) (x y : ByteArray) : StrsAt (w.alloc (.cells #[.string x, .string y] 9)) (some ⟨w.heap.size, 0, none⟩) 2 [x, y] := by
  have h := strs_alloc w [x, y] 9 (by simp)
  exact h
theorem wk_strs3 (w : World) (x y z : ByteArray) : StrsAt (w.alloc (.cells #[.string x, .string y, .string z] 9)) (some ⟨w.heap.size, 0, none⟩) 3 [x, y, z] := by
  have h := strs_alloc w [x, y, z] 9 (by simp)
  exact h
theorem wk_join (W : World) (a : Option Addr) (hS : StrsAt W a 2 [⟨#[97]⟩, ⟨#[98]⟩]) : Calls Tryd.prog 13 #[.slice a 2 2] W fun e w' => e = .returned (.tuple #[.string ⟨#[97, 47, 98]⟩, .int .i64 0]) ∧ Below W.heap.size W w' := by
  refine (join_any a 2 2 _ W hS (by omega)).mono ?_
  rintro e w' ⟨rfl, hb⟩
  have e1 : joinR (ls [⟨#[97]⟩, ⟨#[98]⟩]) = [97, 47, 98] := by decide +kernel
  have e2 : checkE (ls [⟨#[97]⟩, ⟨#[98]⟩]) = 0 := by decide +kernel
  exact ⟨by rw [e1, e2], hb⟩
theorem wk_check (W : World) (a : Option Addr) (hS : StrsAt W a 3 [⟨#[97]⟩, ⟨#[98]⟩, ⟨#[97, 47, 99]⟩]) (hM : MaxAt W) : Calls Tryd.prog 22 #[.slice a 3 3] W fun e w' => e = .returned (.tuple #[.int .i64 2, .int .i64 32]) ∧ Below W.heap.size W w' := by
  refine (pcheck_any a 3 3 _ W hS (by omega) (by unfold maxLen; omega) (by intro x hx; simp at hx; rcases hx with rfl | rfl | rfl <;> decide) hM).mono ?_
  rintro e w' ⟨rfl, hb⟩
  have e1 : checkR (ls [⟨#[97]⟩, ⟨#[98]⟩, ⟨#[97, 47, 99]⟩]) = (2, 32) := by decide +kernel
  exact ⟨by rw [e1], hb⟩
theorem wk_cmp (W : World) (hM : MaxAt W) : Calls Tryd.prog 18 #[.string ⟨#[97, 47, 98]⟩, .string ⟨#[97, 46, 98]⟩] W fun e w' => e = .returned (.int .i64 (-1)) ∧ Below W.heap.size W w' := by
  refine (compare_any _ _ W (by decide) (by decide) hM).mono ?_
  rintro e w' ⟨rfl, hb⟩
  exact ⟨ret_int (by decide +kernel), hb⟩
theorem wf1 : withinR [97] [97, 47, 98] = true := by decide +kernel
theorem wf2 : withinR [97] [97, 98] = false := by decide +kernel
theorem gf1 : goodL [120] = true := by decide +kernel
theorem gf2 : goodL [46, 46] = false := by decide +kernel
theorem wk_within (f p : ByteArray) (W : World) (hM : MaxAt W) (hf : f.size < 4294967281) (hp : p.size < 4294967281) : Calls Tryd.prog 20 #[.string f, .string p] W fun e w' => e = .returned (.bool (withinR f.data.toList p.data.toList)) ∧ Below W.heap.size W w' := within_any f p W hf hp hM

set_option maxHeartbeats 8000000 in
theorem awake_any (w : World) (hm : MaxAt w) : Calls Tryd.prog 10 #[] w fun e w' => e = .returned (.bool true) ∧ Below w.heap.size w w' := by
  have HM := hid hm; clear hm
  go_enter Tryd.func10, Tryd.ntmps10
  go_wp2_with fail
  refine (wk_split1 _ HM.out).mono ?_; rintro e w1 ⟨b, o, c, rfl, hs1, hb1⟩
  go_wp2_with fail
  refine (wk_split2 _ (HM.out.later hb1)).mono ?_; rintro e w2 ⟨v, rfl, hb2⟩
  have hB2 := below_then hb1 hb2
  have hs2 := hs1.later hb2
  clear hs1
  go_wp2_with fail
  have hA := wk_strs2 w2 ⟨#[97]⟩ ⟨#[98]⟩
  have hbA : Below w2.heap.size w2 (w2.alloc (.cells #[.string ⟨#[97]⟩, .string ⟨#[98]⟩] 9)) := (Below.refl _ _).alloc (Nat.le_refl _) _
  refine (wk_join _ _ hA).mono ?_; rintro e w3 ⟨rfl, hb3⟩
  have hB3 := below_then (below_then hB2 hbA) hb3
  have hs3 := (hs2.later hbA).later hb3
  clear hA hbA hs2
  go_wp2_with fail
  have hA := wk_strs3 w3 ⟨#[97]⟩ ⟨#[98]⟩ ⟨#[97, 47, 99]⟩
  have hbA : Below w3.heap.size w3 (w3.alloc (.cells #[.string ⟨#[97]⟩, .string ⟨#[98]⟩, .string ⟨#[97, 47, 99]⟩] 9)) := (Below.refl _ _).alloc (Nat.le_refl _) _
  refine (wk_check _ _ hA (HM.out.later (below_then hB3 hbA))).mono ?_; rintro e w4 ⟨rfl, hb4⟩
  have hB4 := below_then (below_then hB3 hbA) hb4
  have hs4 := (hs3.later hbA).later hb4
  clear hA hbA hs3
  have hC : w4.cell? ⟨b, o, none⟩ = some (.string ⟨#[97]⟩) ∧ w4.cell? ⟨b, o + 1, none⟩ = some (.string ⟨#[98]⟩) := by
    obtain ⟨b', o', hab, h⟩ := hs4.2.2.resolve_left (by decide)
    cases hab; exact ⟨h 0 (by decide), h 1 (by decide)⟩
  obtain ⟨hC0, hC1⟩ := hC
  have x1 := wf1; have x2 := wf2; have x3 := gf1; have x4 := gf2
  go_wp2_with (first
    | (go_at_call 18; refine (wk_cmp _ (HM.out.later hB4)).mono ?_; rintro e w5 ⟨rfl, hb5⟩; replace hB4 := below_then hB4 hb5; clear hb5)
    | (go_at_call 20; refine (wk_within _ _ _ (HM.out.later hB4) (by decide) (by decide)).mono ?_; rintro e w5 ⟨rfl, hb5⟩; replace hB4 := below_then hB4 hb5; clear hb5)
    | (go_at_call 15; refine (pgood_any _ _).mono ?_; rintro e w5 ⟨rfl, rfl⟩))
  go_ret
  exact ⟨rfl, hB4⟩
end Go.Proofs.YtfgglckpfnnaoaaDoor
