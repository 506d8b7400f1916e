/- The walk of the statement IdentDigits. -/
import Derived.Test.YtcglkhcgnafegaaIdArr
import Derived.Test.YtcglkhcgnafegaaIdBack
namespace Go.Proofs.Ytcglkhcgnafegaa
open Go.RowKit Idp
set_option linter.unusedVariables false

theorem hex_at {A : ByteArray} {j : Nat} (hA : A.size = 32) (hj : j < 64) {G : ByteArray} (hG : (⟨(hexL A).toArray⟩ : ByteArray) = G) (h : j < G.size) : G[j].toNat = (hexChar (digitN A j)).toNat := by
  have h1 := getD_byte h
  rw [← h1, ← hG]
  show ((hexL A).getD j 0).toNat = _
  rw [hexL_in hA, hexUpto_getD A hj]
theorem digs_lit (d : Nat) (h : d < 16) : ∃ h' : d < ({ data := #[48, 49, 50, 51, 52, 53, 54, 55, 56, 57, 97, 98, 99, 100, 101, 102] } : ByteArray).size, (({ data := #[48, 49, 50, 51, 52, 53, 54, 55, 56, 57, 97, 98, 99, 100, 101, 102] } : ByteArray)[d]).toNat = (hexChar d).toNat := digs_at d h
theorem two_digits {A : ByteArray} {k : Nat} (h : k < A.size) : 16 * digitN A (2 * k) + digitN A (2 * k + 1) = A[k].toNat := by
  have hb := byteAt_get A k h
  unfold digitN nibB
  rw [if_pos (by omega), if_neg (by omega), show 2 * k / 2 = k from by omega, show (2 * k + 1) / 2 = k from by omega, hb]
  omega
theorem has_self {A : ByteArray} (h : A.size = 32) : has A (hexL A) = true := by
  rw [hexL_in h]; exact (has_hex h h (Nat.le_refl _)).2 (by rw [share_self h]; exact Nat.le_refl _)
theorem has_nil {A : ByteArray} (h : A.size = 32) : has A [] = true := (has_hex h h (n := 0) (by omega)).2 (by omega)

theorem sum_byte {d0 d1 : Nat} {c : UInt8} (h : 16 * d0 + d1 = c.toNat) : (16 * (d0 : Int) + (d1 : Int) != wrap64 (c.toNat : Int)) = false := by
  have hc : c.toNat < 256 := c.toNat_lt
  rw [IntWalk.wrap64_in _ (by omega), ← h]; simp
theorem ne_lit {G : ByteArray} {j d : Nat} {q : d < digs.size} (h : j < G.size) (e : digs[d].toNat = G[j].toNat) :
    ((G[j].toNat : Int) != ((({ data := #[48, 49, 50, 51, 52, 53, 54, 55, 56, 57, 97, 98, 99, 100, 101, 102] } : ByteArray)[d]'q).toNat : Int)) = false := by
  show ((G[j].toNat : Int) != (digs[d].toNat : Int)) = false
  rw [e]; simp
set_option maxHeartbeats 2000000 in
set_option maxRecDepth 100000 in
theorem walk_IdentDigits (A : ByteArray) (at' : Int) (w : World) (hA : A.size = 32) :
    Calls Try.prog 6 #[arrV A, .int .i64 at'] w fun e w' => e = .returned (.bool true) ∧ Below w.heap.size w w' := by
  unfold arrV
  obtain ⟨ca, hca⟩ : ∃ ca, (bvals A.data.toList).toArray = ca := ⟨_, rfl⟩
  rw [hca]
  have HCA := hid hca; clear hca
  go_enter Try.func6, Try.ntmps6
  go_wp2_with fail
  have a0 : ArrAt (w.alloc (.cells ca 29)) w.heap.size 29 A := by
    unfold ArrAt; rw [HCA.out, heap_alloc_new]
  have hb0 : Below w.heap.size w (w.alloc (.cells ca 29)) := (Below.refl _ _).alloc (Nat.le_refl _) _
  obtain ⟨w0, hw0⟩ : ∃ w0, w.alloc (.cells ca 29) = w0 := ⟨_, rfl⟩
  rw [hw0] at a0 hb0 ⊢
  clear hw0
  refine (awake_any _).mono ?_; rintro e w1 ⟨rfl, hb1⟩
  have a1 := a0.below hb1
  have HB := below_then hb0 hb1
  clear a0 hb0 hb1
  have ka := a1.conv hA
  obtain ⟨G, hG⟩ : ∃ G : ByteArray, (⟨(hexL A).toArray⟩ : ByteArray) = G := ⟨_, rfl⟩
  have cG : ∀ w, Calls Try.prog 15 #[.string A] w fun e w' => e = .returned (.string G) ∧ Below w.heap.size w w' := fun w => by rw [← hG]; exact hex_any A w
  have hGs : G.size = 64 := by rw [← hG, hexL_in hA]; simp [ByteArray.size, hexUpto_length]
  have hq1 : has A G.data.toList = true := by rw [← hG]; exact has_self hA
  have hq2 := has_nil hA
  have HG := hid hG; have CG := hid cG
  clear cG hG
  go_wp2_with (first
    | (go_at_call 15; refine (CG.out _).mono ?_; rintro e w2 ⟨rfl, hb2⟩; replace HB := below_then HB hb2; have a2 := a1.below hb2))
  clear ka a1
  go_loopw [7] (fun i wr => ∃ k : Nat, k ≤ 32 ∧ i = .int .i64 k ∧ ArrAt wr w.heap.size 29 A ∧ Below w.heap.size w wr) (fun i _ => 32 - (intOf i).toNat)
  case atStart => exact ⟨0, by omega, rfl, a2, HB⟩
  case round =>
    obtain ⟨k, hk, rfl, ak, hbel⟩ := hrel
    by_cases hlt : k < 32
    · have hkA : k < A.size := by omega
      have hcA := ak.cell hkA
      have hg0 := hex_at (j := 2 * k) hA (by omega) HG.out (by omega)
      have hg1 := hex_at (j := 2 * k + 1) hA (by omega) HG.out (by omega)
      have e0 := digitZ_in hA (k := 2 * (k : Int)) (by omega) (by omega)
      have e1 := digitZ_in hA (k := 2 * (k : Int) + 1) (by omega) (by omega)
      rw [show (2 * (k : Int)).toNat = 2 * k from by omega] at e0
      rw [show (2 * (k : Int) + 1).toNat = 2 * k + 1 from by omega] at e1
      have h2 := two_digits hkA
      have l0 := digitN_lt A (2 * k)
      have l1 := digitN_lt A (2 * k + 1)
      obtain ⟨d0, hd0⟩ : ∃ d, digitN A (2 * k) = d := ⟨_, rfl⟩
      obtain ⟨d1, hd1⟩ : ∃ d, digitN A (2 * k + 1) = d := ⟨_, rfl⟩
      rw [hd0] at hg0 e0 h2 l0
      rw [hd1] at hg1 e1 h2 l1
      clear hd0 hd1
      obtain ⟨q0, f0⟩ := digs_lit d0 l0
      obtain ⟨q1, f1⟩ := digs_lit d1 l1
      rw [← hg0] at f0
      rw [← hg1] at f1
      have HF0 := hid f0; have HF1 := hid f1; have H2 := hid h2
      clear f0 f1 hg0 hg1 h2
      go_wp2_with (first
        | (go_at_call 17; refine (digit_any _ _ _).mono ?_; rintro e w3 ⟨rfl, rfl⟩; first | rw [e0] | rw [e1]))
      have t0 : decide ((d0 : Int) < 0) = false := by simp
      have t1 : decide ((15 : Int) < (d0 : Int)) = false := by simp; omega
      have t2 : decide ((d1 : Int) < 0) = false := by simp
      have t3 : decide ((15 : Int) < (d1 : Int)) = false := by simp; omega
      have t4 := sum_byte H2.out
      have t5 := ne_lit (G := G) (j := 2 * k) (by omega) HF0.out
      have t6 := ne_lit (G := G) (j := 2 * k + 1) (by omega) HF1.out
      have i0 : (0 : Int) ≤ (k : Int) := by omega
      have i1 : (k : Int) < 32 := by omega
      have i2 : (2 * (k : Int)) < 64 := by omega
      have i3 : (2 * (k : Int)) + 1 < 64 := by omega
      have i4 : (0 : Int) ≤ 2 * (k : Int) := by omega
      have i5 : (0 : Int) ≤ 2 * (k : Int) + 1 := by omega
      have i6 : (2 * (k : Int)).toNat = 2 * k := by omega
      have i7 : (2 * (k : Int) + 1).toNat = 2 * k + 1 := by omega
      have i8 : (d0 : Int) < 16 := by omega
      have i9 : (d1 : Int) < 16 := by omega
      go_quiet (fail)
      have hbk := below_drewN hbel nq
      have akk : ArrAt (wr.drewN nq) w.heap.size 29 A := ak
      clear t4
      go_wp2
      go_roundw
      case rel => exact ⟨k + 1, by omega, by go_num, akk, hbk⟩
      case measure => simp [intOf]; omega
    · obtain rfl : k = 32 := by omega
      have HB2 := hbel
      by_cases h1 : 0 ≤ at'
      · by_cases h2 : at' < 64
        · have e := digitZ_in hA h1 h2
          have e0 : decide (0 ≤ digitZ A at') = true := by rw [e]; simp
          clear e
          go_wp2_with (first
            | (go_at_call 17; refine (digit_any _ _ _).mono ?_; rintro e w3 ⟨rfl, rfl⟩)
            | (go_at_call 16; refine (has_any _ _ _).mono ?_; rintro e w3 ⟨rfl, hb3⟩; replace HB2 := below_then HB2 hb3))
          go_ret
          exact ⟨rfl, HB2⟩
        · have e := digitZ_out (s := A) (k := at') (fun h => h2 h.2)
          have d2 : decide (at' < 64) = false := by simpa using h2
          have e0 : decide (0 ≤ digitZ A at') = false := by rw [e]; simp
          clear e
          go_wp2_with (first
            | (go_at_call 17; refine (digit_any _ _ _).mono ?_; rintro e w3 ⟨rfl, rfl⟩)
            | (go_at_call 16; refine (has_any _ _ _).mono ?_; rintro e w3 ⟨rfl, hb3⟩; replace HB2 := below_then HB2 hb3))
          go_ret
          exact ⟨rfl, HB2⟩
      · have e := digitZ_out (s := A) (k := at') (fun h => h1 h.1)
        have d1 : decide (0 ≤ at') = false := by simpa using h1
        have e0 : decide (0 ≤ digitZ A at') = false := by rw [e]; simp
        clear e
        go_wp2_with (first
          | (go_at_call 17; refine (digit_any _ _ _).mono ?_; rintro e w3 ⟨rfl, rfl⟩)
          | (go_at_call 16; refine (has_any _ _ _).mono ?_; rintro e w3 ⟨rfl, hb3⟩; replace HB2 := below_then HB2 hb3))
        go_ret
        exact ⟨rfl, HB2⟩
end Go.Proofs.Ytcglkhcgnafegaa
