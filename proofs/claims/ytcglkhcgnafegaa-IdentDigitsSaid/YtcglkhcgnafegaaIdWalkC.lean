/- The walks of layer 3's reference Hex, Unhex. -/
import Derived.Test.YtcglkhcgnafegaaIdWalkB
import Derived.Test.YtcglkhcgnafegaaMem
namespace Go.Proofs.Ytcglkhcgnafegaa
open Go.RowKit Idp
set_option linter.unusedVariables false
theorem hexL_in {s : ByteArray} (h : s.size = 32) : hexL s = hexUpto s 64 := by unfold hexL; rw [if_pos h]
theorem hexL_out {s : ByteArray} (h : ¬ s.size = 32) : hexL s = [] := by unfold hexL; rw [if_neg h]

set_option maxHeartbeats 400000 in
theorem hexR_any (s : ByteArray) (w : World) : Calls Try.prog 22 #[.string s] w fun e w' => e = .returned (.string ⟨(hexL s).toArray⟩) ∧ Below w.heap.size w w' := by
  obtain ⟨i0, hi, hz0, hz1, hz2⟩ := info_parts Try.infoB
  by_cases hs : s.size = 32
  · have HX := hid (hexL_in hs)
    have hb : decide (s.size = 32) = true := by simpa using hs
    go_enter Try.func22, Try.ntmps22
    go_wp2_with (go_at_call 21; refine (goodR_any _ _).mono ?_; rintro e w' ⟨rfl, rfl⟩)
    go_loopw [3, 4] (fun v i wr => ∃ k : Nat, k ≤ 64 ∧ i = .int .i64 k ∧ wr.ownsRow w.heap.size 5 1 v (hexUpto s k).length (bvals (hexUpto s k)) ∧ Below w.heap.size w wr) (fun _ i _ => 64 - (intOf i).toNat)
    case atStart => exact ⟨0, by omega, rfl, World.ownsRow_made _ _ 0 (Nat.le_refl _) (by unfold maxLen; omega) rfl, (Below.refl _ _).alloc (Nat.le_refl _) _⟩
    case round =>
      obtain ⟨k, hk, rfl, hown, hbel⟩ := hrel
      have hsize := hbel.size
      by_cases hlt : k < 64
      · have hd := digitN_lt s k
        have ez : digitZ s (k : Int) = ((digitN s k : Nat) : Int) := by rw [digitZ_in hs (by omega) (by omega)]; simp
        have HD := hid ez; clear ez
        have hl := hexUpto_length s k
        go_wp2_with (first
          | (go_at_call 21; refine (goodR_any _ _).mono ?_; rintro e w' ⟨rfl, rfl⟩)
          | (go_at_call 23; refine (digitR_any _ _ _).mono ?_; rintro e w' ⟨rfl, rfl⟩)
          | (go_at_call 35; rw [HD.out]; refine (digitC_any _ _ (by omega) (by omega)).mono ?_; rintro e w' ⟨rfl, rfl⟩; rw [Int.toNat_natCast])
          | (at_builtin; refine wpList_append_own _ rfl (.tmp 14) (.tmp 19) 31 rfl w.heap.size 5 i0 (.int .u8 0) 1 1 Try.underlying31 hi hz0 hz1 hz2 rfl (by decide) _ _ _ rfl (hown.alloc _) ⟨wr.heap.size, 0, none⟩ 1 1 [.int .u8 ((hexChar (digitN s k)).toNat : Int)] rfl rfl (cellNew1 _ _ _) (one_bytes rfl) (by unfold maxLen; omega) (by omega) (by simp; omega) ?_; intro v' w1 hown' hgrow _))
        go_roundw
        case rel => exact ⟨k + 1, by omega, by go_num, by rw [hexUpto_succ]; exact own_snoc hown', below_grown1 hbel hown _ (by omega) hgrow⟩
        case measure => simp [intOf]; omega
      · obtain rfl : k = 64 := by omega
        have hconv := conv_own hown
        go_wp2_with (first
          | (go_at_call 21; refine (goodR_any _ _).mono ?_; rintro e w' ⟨rfl, rfl⟩))
        go_ret
        exact ⟨ret_string (by rw [HX.out]), hbel⟩
  · have HX := hid (hexL_out hs)
    have hb : decide (s.size = 32) = false := by simpa using hs
    go_enter Try.func22, Try.ntmps22
    go_wp2_with (go_at_call 21; refine (goodR_any _ _).mono ?_; rintro e w' ⟨rfl, rfl⟩)
    have hconv := conv_own (l := []) (World.ownsRow_made (e := 5) (size := 1) (base := w.heap.size) w #[] 0 (Nat.le_refl _) (by unfold maxLen; omega) rfl)
    refine wp_loop_rounds 1 ?_
    rw [rounds_succ]
    go_wp2_with (go_at_call 21; refine (goodR_any _ _).mono ?_; rintro e w' ⟨rfl, rfl⟩)
    go_ret
    exact ⟨ret_string (by rw [HX.out]), (Below.refl _ _).alloc (Nat.le_refl _) _⟩

theorem getD_byte {s : ByteArray} {k : Nat} (h : k < s.size) : s.data.toList.getD k 0 = s[k] := by
  rw [List.getD_eq_getElem?_getD, List.getElem?_eq_getElem (by simpa using h)]; rfl
theorem unhexR_len {s : ByteArray} (h : ¬ s.size = 64) : unhexR s = ([], 1) := by unfold unhexR; rw [if_pos h]
theorem unhexR_form {s : ByteArray} (h : s.size = 64) (h2 : areDig s.data.toList = false) : unhexR s = ([], 4) := by unfold unhexR; rw [if_neg (by omega), if_pos h2]
theorem unhexR_ok {s : ByteArray} (h : s.size = 64) (h2 : areDig s.data.toList = true) : unhexR s = (unhexUpto s.data.toList 32, 0) := by unfold unhexR; rw [if_neg (by omega), if_neg (by simp [h2])]
def pairOk (s : ByteArray) (k : Nat) : Prop := ∀ j, j < k → isHex (s.data.toList.getD j 0) = true
theorem pairOk_two {s : ByteArray} {k : Nat} (h : pairOk s (2 * k)) (h1 : 2 * k < s.size) (h2 : 2 * k + 1 < s.size) (hx : isHex s[2 * k] = true) (hy : isHex s[2 * k + 1] = true) : pairOk s (2 * (k + 1)) := fun j hj => by
  rcases Nat.lt_or_ge j (2 * k) with h3 | h3
  · exact h j h3
  · rcases Nat.lt_or_ge j (2 * k + 1) with h4 | h4
    · obtain rfl : j = 2 * k := by omega
      rw [getD_byte h1]; exact hx
    · obtain rfl : j = 2 * k + 1 := by omega
      rw [getD_byte h2]; exact hy
theorem pairOk_all {s : ByteArray} {k : Nat} (h : pairOk s k) (hk : s.size ≤ k) : areDig s.data.toList = true :=
  areDig_all fun j hj => h j (by have : j < s.size := by simpa using hj
                                 omega)
theorem valueZ_yes {c : UInt8} (h : isHex c = true) : valueZ c = ((hexVal c : Nat) : Int) := by unfold valueZ; rw [if_pos h]
theorem valueZ_non {c : UInt8} (h : ¬ isHex c = true) : valueZ c = -1 := by unfold valueZ; rw [if_neg h]
theorem pair_byte {A B : Nat} (ha : A < 16) (hb : B < 16) : (((16 * A + B).toUInt8).toNat : Int) = 16 * (A : Int) + (B : Int) := by
  simp; omega
theorem unhexUpto_two {s : ByteArray} {k : Nat} (h1 : 2 * k < s.size) (h2 : 2 * k + 1 < s.size) :
    unhexUpto s.data.toList (k + 1) = unhexUpto s.data.toList k ++ [(16 * hexVal s[2 * k] + hexVal s[2 * k + 1]).toUInt8] := by
  rw [unhexUpto_succ, getD_byte h1, getD_byte h2]

set_option maxHeartbeats 1000000 in
theorem unhexR_any (s : ByteArray) (w : World) : Calls Try.prog 19 #[.string s] w fun e w' => e = .returned (.tuple #[.string ⟨(unhexR s).1.toArray⟩, .int .i64 (unhexR s).2]) ∧ Below w.heap.size w w' := by
  obtain ⟨i0, hi, hz0, hz1, hz2⟩ := info_parts Try.infoB
  by_cases hs : s.size = 64
  · have hb : ((s.size : Int) == 64) = true := by simpa using (by omega : (s.size : Int) = 64)
    have hb2 : ((s.size : Int) != 64) = false := by simp [hs]
    have HS := hid hs
    have hs1 : s.size ≤ 64 := by omega
    have hs2 : 64 ≤ s.size := by omega
    clear hs
    go_enter Try.func19, Try.ntmps19
    go_wp2
    go_loopw [4, 5] (fun v i wr => ∃ k : Nat, k ≤ 32 ∧ i = .int .i64 (2 * k : Nat) ∧ wr.ownsRow w.heap.size 5 1 v (unhexUpto s.data.toList k).length (bvals (unhexUpto s.data.toList k)) ∧ Below w.heap.size w wr ∧ pairOk s (2 * k)) (fun _ i _ => 64 - (intOf i).toNat)
    case atStart => exact ⟨0, by omega, rfl, World.ownsRow_made _ _ 0 (Nat.le_refl _) (by unfold maxLen; omega) rfl, (Below.refl _ _).alloc (Nat.le_refl _) _, fun j hj => absurd hj (by omega)⟩
    case round =>
      obtain ⟨k, hk, rfl, hown, hbel, HP⟩ := hrel
      have hsize := hbel.size
      have hl := unhexUpto_length s.data.toList k
      by_cases hlt : k < 32
      · have h1 : 2 * k < s.size := by omega
        have h2 : 2 * k + 1 < s.size := by omega
        have HU := hid (unhexUpto_two h1 h2)
        by_cases hx : isHex s[2 * k] = true
        · by_cases hy : isHex s[2 * k + 1] = true
          · have PB := hid (pair_byte (hexVal_lt _ hx) (hexVal_lt _ hy))
            have va := valueZ_yes hx
            have vb := valueZ_yes hy
            have ha := hexVal_lt _ hx
            have hb := hexVal_lt _ hy
            have HX := hid hx
            have HY := hid hy
            clear hx hy
            obtain ⟨A, hA⟩ : ∃ A, hexVal s[2 * k] = A := ⟨_, rfl⟩
            obtain ⟨B, hB⟩ : ∃ B, hexVal s[2 * k + 1] = B := ⟨_, rfl⟩
            rw [hA] at ha va PB HU
            rw [hB] at hb vb PB HU
            clear hA hB
            go_wp2_with (first
              | (go_at_call 34; refine (value_any _ _).mono ?_; rintro e w' ⟨rfl, rfl⟩; first | rw [va] | rw [vb])
              | (at_builtin; rw [← PB.out]; (refine wpList_append_own _ rfl (.tmp 31) (.tmp 37) 31 rfl w.heap.size 5 i0 (.int .u8 0) 1 1 Try.underlying31 hi hz0 hz1 hz2 rfl (by decide) _ _ _ rfl (hown.alloc _) ⟨wr.heap.size, 0, none⟩ 1 1 [.int .u8 (((16 * A + B).toUInt8).toNat : Int)] rfl rfl (cellNew1 _ _ _) (one_bytes rfl) (by unfold maxLen; omega) (by omega) (by simp; omega) ?_; intro v' w1 hown' hgrow _)))
            go_roundw
            case rel => exact ⟨k + 1, by omega, by go_num, by rw [HU.out]; exact own_snoc hown', below_grown1 hbel hown _ (by omega) hgrow, pairOk_two HP h1 h2 HX.out HY.out⟩
            case measure => simp [intOf]; omega
          · have va := valueZ_yes hx
            have vb := valueZ_non hy
            have HY := hid hy
            have HA := hid (unhexR_form HS.out (areDig_not (k := 2 * k + 1) (by simpa using h2) (by rw [getD_byte h2]; exact hy)))
            clear hx hy
            go_wp2_with (first
              | (go_at_call 34; refine (value_any _ _).mono ?_; rintro e w' ⟨rfl, rfl⟩; first | rw [va] | rw [vb]))
            go_ret2
            exact ⟨by rw [HA.out]; rfl, hbel⟩
        · have va := valueZ_non hx
          have HA := hid (unhexR_form HS.out (areDig_not (k := 2 * k) (by simpa using h1) (by rw [getD_byte h1]; exact hx)))
          clear hx
          go_wp2_with (first
              | (go_at_call 34; refine (value_any _ _).mono ?_; rintro e w' ⟨rfl, rfl⟩; try rw [va]))
          go_ret2
          exact ⟨by rw [HA.out]; rfl, hbel⟩
      · obtain rfl : k = 32 := by omega
        have HA := hid (unhexR_ok HS.out (pairOk_all HP (by omega)))
        have hconv := conv_own hown
        go_wp2
        go_ret2
        exact ⟨by rw [HA.out]; rfl, hbel⟩
  · have HX := hid (unhexR_len hs)
    have hb : ((s.size : Int) != 64) = true := by simp; omega
    go_enter Try.func19, Try.ntmps19
    go_wp2
    go_ret2
    exact ⟨by rw [HX.out]; rfl, Below.refl _ _⟩
end Go.Proofs.Ytcglkhcgnafegaa
