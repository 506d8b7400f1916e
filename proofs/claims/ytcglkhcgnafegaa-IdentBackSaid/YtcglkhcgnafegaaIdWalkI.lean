/- filled, awake. -/
import Derived.Test.YtcglkhcgnafegaaIdWalkH
namespace Go.Proofs.Ytcglkhcgnafegaa
open Go.RowKit Idp
set_option linter.unusedVariables false

def fillUpto (c : UInt8) (k : Nat) : List Value := bvals (List.replicate k c) ++ List.replicate (32 - k) (.int .u8 0)
theorem made0 : (madeCells (Value.int .u8 0).cells (32 * 1)).toList = List.replicate 32 (.int .u8 0) := toList_madeCells_one _ _
theorem fill_set (c : UInt8) {k : Nat} (h : k < 32) : (fillUpto c k).set k (.int .u8 (c.toNat : Int)) = fillUpto c (k + 1) := by
  unfold fillUpto bvals
  rw [List.map_replicate, List.map_replicate, List.set_append_right _ _ (by simp)]
  rw [show 32 - k = (32 - (k + 1)) + 1 from by omega, List.replicate_succ, List.replicate_succ' (n := k)]
  simp
theorem fill_len (c : UInt8) {k : Nat} (h : k ≤ 32) : (fillUpto c k).length = 32 := by unfold fillUpto; simp [bvals]; omega
theorem fill_at (c : UInt8) {k : Nat} (h : k < 32) : (fillUpto c k)[k]? = some (.int .u8 0) := by
  unfold fillUpto; rw [List.getElem?_append_right (by simp [bvals])]; simp [bvals, List.getElem?_replicate]; omega
theorem fill_end (c : UInt8) : fillUpto c 32 = bvals (List.replicate 32 c) := by unfold fillUpto; simp

set_option maxHeartbeats 1000000 in
theorem filled_any (c : UInt8) (w : World) : Calls Try.prog 26 #[.int .u8 (c.toNat : Int)] w fun e w' => e = .returned (.string ⟨(List.replicate 32 c).toArray⟩) ∧ Below w.heap.size w w' := by
  obtain ⟨i0, hi, hz0, hz1, hz2⟩ := info_parts Try.infoB
  go_enter Try.func26, Try.ntmps26
  go_wp2_with (refine wpList_make_full w rfl _ _ 31 rfl w.heap.size 5 i0 (.int .u8 0) 1 Try.underlying31 hi hz0 hz1 _ _ _ _ 32 rfl rfl rfl rfl (by rw [hz2]; omega) (by unfold maxLen; omega) (Nat.le_refl _) ?_; intro w1 hown0 hgrow)
  have hown1 : w1.ownsRow w.heap.size 5 1 (.slice (some ⟨w.heap.size, 0, none⟩) 32 32) 32 (fillUpto c 0) := by rw [made0] at hown0; exact hown0
  have hb1 : Below w.heap.size w w1 := (Below.refl _ _).grown hgrow (Nat.le_refl _) (fun k h => by cases h)
  clear hown0 hgrow
  go_loopw [4] (fun i wr => ∃ k : Nat, k ≤ 32 ∧ i = .int .i64 k ∧ wr.ownsRow w.heap.size 5 1 (.slice (some ⟨w.heap.size, 0, none⟩) 32 32) 32 (fillUpto c k) ∧ Below w.heap.size w wr) (fun i _ => 32 - (intOf i).toNat)
  case atStart => exact ⟨0, by omega, rfl, hown1, hb1⟩
  case round =>
    obtain ⟨k, hk, rfl, hown, hbel⟩ := hrel
    by_cases hlt : k < 32
    · have hc := hown.cellAt k (by omega)
      rw [fill_at c hlt] at hc
      have hf := hown.frozenAt k
      have hst := hown.stored k (.int .u8 (c.toNat : Int))
      rw [fill_set c hlt] at hst
      have hso := hst.1
      have hbs := hbel.setCell (p := ⟨w.heap.size, k, none⟩) (Nat.le_refl _) (.int .u8 (c.toNat : Int))
      clear hst hown
      go_wp2
      go_roundw
      case rel => exact ⟨k + 1, by omega, by go_num, hso, hbs⟩
      case measure => simp [intOf]; omega
    · obtain rfl : k = 32 := by omega
      have h2 : wr.ownsRow w.heap.size 5 1 (.slice (some ⟨w.heap.size, 0, none⟩) 32 32) (List.replicate 32 c).length (bvals (List.replicate 32 c)) := by
        rw [← fill_end, List.length_replicate]; exact hown
      have hconv := conv_own h2
      obtain ⟨R, hR⟩ : ∃ R, (List.replicate 32 c).toArray = R := ⟨_, rfl⟩
      rw [hR] at hconv
      have HR := hid hR; clear hR
      go_wp2
      go_ret
      exact ⟨ret_string (by rw [HR.out]), hbel⟩

def FB (c : UInt8) : ByteArray := ⟨(List.replicate 32 c).toArray⟩
theorem aw1 : findR [FB 0, FB 1] [48, 48] = (FB 0, 0) := by decide +kernel
theorem aw2 : findR [FB 0, FB 1] [48] = (⟨#[]⟩, 6) := by decide +kernel
theorem aw3 : findR [FB 0, FB 1] [49] = (⟨#[]⟩, 12) := by decide +kernel
theorem aw4 : findR [FB 0, FB 1] [48, 65] = (⟨#[]⟩, 4) := by decide +kernel
theorem aw5 : (hexL (FB 10)).length = 64 ∧ (hexL (FB 10)).take 4 = [48, 97, 48, 97] := by decide +kernel
theorem aw6 : digitZ (FB 10) 1 = 10 := by decide +kernel
theorem aw7 : digitZ ⟨#[120]⟩ 0 = -1 := by decide +kernel
theorem aw8 : share (FB 0) (FB 1) = 1 := by decide +kernel
theorem aw9 : decide ((FB 0).size = 32) = true := by decide +kernel
theorem aw10 : shortR [FB 0, FB 1] (FB 1) = [48, 49, 48, 49] := by decide +kernel
theorem fill0 (w : World) : Calls Try.prog 26 #[.int .u8 0] w fun e w' => e = .returned (.string (FB 0)) ∧ Below w.heap.size w w' := filled_any 0 w
theorem fill1 (w : World) : Calls Try.prog 26 #[.int .u8 1] w fun e w' => e = .returned (.string (FB 1)) ∧ Below w.heap.size w w' := filled_any 1 w
theorem fill10 (w : World) : Calls Try.prog 26 #[.int .u8 10] w fun e w' => e = .returned (.string (FB 10)) ∧ Below w.heap.size w w' := filled_any 10 w
theorem fnd1 (a : Option Addr) (c : Nat) (w : World) (hS : StrsAt w a 2 [FB 0, FB 1]) : Calls Try.prog 10 #[.slice a 2 c, .string ⟨#[48, 48]⟩] w fun e w' => e = .returned (.tuple #[.string (FB 0), .int .i64 0]) ∧ Below w.heap.size w w' := by
  have h := find_any a 2 c _ ⟨#[48, 48]⟩ w hS (by omega); rwa [show findR [FB 0, FB 1] (⟨#[48, 48]⟩ : ByteArray).data.toList = _ from aw1] at h
theorem fnd2 (a : Option Addr) (c : Nat) (w : World) (hS : StrsAt w a 2 [FB 0, FB 1]) : Calls Try.prog 10 #[.slice a 2 c, .string ⟨#[48]⟩] w fun e w' => e = .returned (.tuple #[.string ⟨#[]⟩, .int .i64 6]) ∧ Below w.heap.size w w' := by
  have h := find_any a 2 c _ ⟨#[48]⟩ w hS (by omega); rwa [show findR [FB 0, FB 1] (⟨#[48]⟩ : ByteArray).data.toList = _ from aw2] at h
theorem fnd3 (a : Option Addr) (c : Nat) (w : World) (hS : StrsAt w a 2 [FB 0, FB 1]) : Calls Try.prog 10 #[.slice a 2 c, .string ⟨#[49]⟩] w fun e w' => e = .returned (.tuple #[.string ⟨#[]⟩, .int .i64 12]) ∧ Below w.heap.size w w' := by
  have h := find_any a 2 c _ ⟨#[49]⟩ w hS (by omega); rwa [show findR [FB 0, FB 1] (⟨#[49]⟩ : ByteArray).data.toList = _ from aw3] at h
theorem fnd4 (a : Option Addr) (c : Nat) (w : World) (hS : StrsAt w a 2 [FB 0, FB 1]) : Calls Try.prog 10 #[.slice a 2 c, .string ⟨#[48, 65]⟩] w fun e w' => e = .returned (.tuple #[.string ⟨#[]⟩, .int .i64 4]) ∧ Below w.heap.size w w' := by
  have h := find_any a 2 c _ ⟨#[48, 65]⟩ w hS (by omega); rwa [show findR [FB 0, FB 1] (⟨#[48, 65]⟩ : ByteArray).data.toList = _ from aw4] at h
theorem hex10 (w : World) : Calls Try.prog 15 #[.string (FB 10)] w fun e w' => ∃ S : ByteArray, e = .returned (.string S) ∧ S.size = 64 ∧ S.extract 0 4 = ⟨#[48, 97, 48, 97]⟩ ∧ Below w.heap.size w w' := by
  refine (hex_any (FB 10) w).mono ?_
  rintro e w' ⟨rfl, hb⟩
  refine ⟨_, rfl, by simp only [ByteArray.size, List.size_toArray]; exact aw5.1, ?_, hb⟩
  rw [extract_take, aw5.2]
theorem digit10 (w : World) : Calls Try.prog 17 #[.string (FB 10), .int .i64 1] w fun e w' => e = .returned (.int .i64 10) ∧ w = w' := by
  have h := digit_any (FB 10) 1 w; rwa [aw6] at h
theorem digitx (w : World) : Calls Try.prog 17 #[.string ⟨#[120]⟩, .int .i64 0] w fun e w' => e = .returned (.int .i64 (-1)) ∧ w = w' := by
  have h := digit_any ⟨#[120]⟩ 0 w; rwa [aw7] at h
theorem share01 (w : World) : Calls Try.prog 14 #[.string (FB 0), .string (FB 1)] w fun e w' => e = .returned (.int .i64 1) ∧ w = w' := by
  have h := share_any (FB 0) (FB 1) w; rwa [aw8] at h
theorem good0 (w : World) : Calls Try.prog 20 #[.string (FB 0)] w fun e w' => e = .returned (.bool true) ∧ w = w' := by
  have h := good_any (FB 0) w; rwa [aw9] at h
theorem short1 (a : Option Addr) (c : Nat) (w : World) (hS : StrsAt w a 2 [FB 0, FB 1]) : Calls Try.prog 12 #[.slice a 2 c, .string (FB 1)] w fun e w' => e = .returned (.string ⟨#[48, 49, 48, 49]⟩) ∧ Below w.heap.size w w' := by
  have h := short_any a 2 c _ (FB 1) w hS; rwa [aw10] at h

theorem strs_pair (w : World) (x y : ByteArray) (T : TypeId) : StrsAt (w.alloc (.cells #[.string x, .string y] T)) (some ⟨w.heap.size, 0, none⟩) 2 [x, y] := by
  refine ⟨rfl, by omega, .inr ⟨w.heap.size, 0, rfl, fun j hj => ?_⟩⟩
  rw [Nat.zero_add, World.cell?_alloc_mark]
  match j, hj with
  | 0, _ => rfl
  | 1, _ => rfl
theorem pair_cells {w : World} {q : Nat} {x y : ByteArray} (h : StrsAt w (some ⟨q, 0, none⟩) 2 [x, y]) : w.cell? ⟨q, 0, none⟩ = some (.string x) ∧ w.cell? ⟨q, 1, none⟩ = some (.string y) := by
  obtain ⟨b, off, ha, hc⟩ := h.2.2.resolve_left (by omega)
  cases ha
  exact ⟨hc 0 (by omega), hc 1 (by omega)⟩

set_option maxHeartbeats 1000000 in
set_option maxRecDepth 100000 in
theorem awake_any (w : World) : Calls Try.prog 9 #[] w fun e w' => e = .returned (.bool true) ∧ Below w.heap.size w w' := by
  go_enter Try.func9, Try.ntmps9
  go_wp2_with fail
  refine (fill0 _).mono ?_; rintro e w1 ⟨rfl, hb1⟩
  go_wp2_with fail
  refine (fill1 _).mono ?_; rintro e w2 ⟨rfl, hb2⟩
  have hS3 := strs_pair w2 (FB 0) (FB 1) 9
  have hb3 : Below w.heap.size w (w2.alloc (.cells #[.string (FB 0), .string (FB 1)] 9)) := (below_then hb1 hb2).alloc (below_then hb1 hb2).size _
  clear hb1 hb2
  go_wp2_with fail
  obtain ⟨q, hq⟩ : ∃ q, w2.heap.size = q := ⟨_, rfl⟩
  obtain ⟨w3, hw3⟩ : ∃ w3, w2.alloc (.cells #[.string (FB 0), .string (FB 1)] 9) = w3 := ⟨_, rfl⟩
  rw [hw3] at hS3 hb3 ⊢
  rw [hq] at hS3 ⊢
  clear hq hw3
  refine (fnd1 _ _ _ hS3).mono ?_; rintro e w4 ⟨rfl, hb4⟩
  have hS4 := hS3.later hb4; clear hS3
  go_wp2_with fail
  refine (fnd2 _ _ _ hS4).mono ?_; rintro e w5 ⟨rfl, hb5⟩
  have hS5 := hS4.later hb5; clear hS4
  go_wp2_with fail
  refine (fnd3 _ _ _ hS5).mono ?_; rintro e w6 ⟨rfl, hb6⟩
  have hS6 := hS5.later hb6; clear hS5
  go_wp2_with fail
  refine (fnd4 _ _ _ hS6).mono ?_; rintro e w7 ⟨rfl, hb7⟩
  have hS7 := hS6.later hb7; clear hS6
  go_wp2_with fail
  refine (fill10 _).mono ?_; rintro e w8 ⟨rfl, hb8⟩
  have hS8 := hS7.later hb8; clear hS7
  go_wp2_with fail
  refine (hex10 _).mono ?_; rintro e w9 ⟨S, rfl, hs1, hs2, hb9⟩
  have hS9 := hS8.later hb9; clear hS8
  obtain ⟨hca, hcb⟩ := pair_cells hS9
  go_wp2_with fail
  simp only [List.append_eq, List.cons_append, List.nil_append]
  have hA : ∀ x : After w9, x.val.cell? ⟨q, 0, none⟩ = some (.string (FB 0)) := fun x => (pair_cells (hS9.later x.below)).1
  have hB : ∀ x : After w9, x.val.cell? ⟨q, 1, none⟩ = some (.string (FB 1)) := fun x => (pair_cells (hS9.later x.below)).2
  have h6 := aw6
  have h7 := aw7
  refine wp_region_after (by kernel_rfl) (by kernel_rfl) ?_
  repeat (go_big_quiet_step (first
    | (go_at_call 26; exact calls_after (fill10 _))
    | (go_at_call 17; exact calls_after_same (digit_any _ _ _))
    | (go_at_call 14; exact calls_after_same (share01 _))
    | (go_at_call 20; exact calls_after_same (good0 _))
    | (go_at_call 12; exact calls_after (short1 _ _ _ (hS9.later (After.below _))))))
  refine wpQuiet_nil ?_
  intro _ hw'
  obtain ⟨x, rfl⟩ := hw'
  go_wp2
  go_ret
  exact ⟨rfl, below_then (below_then (below_then (below_then (below_then (below_then (below_then hb3 hb4) hb5) hb6) hb7) hb8) hb9) x.below⟩
end Go.Proofs.Ytcglkhcgnafegaa
