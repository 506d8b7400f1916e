/- Hex, Unhex, Has of the program; Has of the reference. -/
import Derived.Test.YtcglkhcgnafegaaIdWalkD
namespace Go.Proofs.Ytcglkhcgnafegaa
open Go.RowKit Idp
set_option linter.unusedVariables false

theorem bvals_cells (l : List UInt8) : bvals l = Lib.byteCells l := rfl
theorem digs_at (d : Nat) (h : d < 16) : ∃ h' : d < digs.size, digs[d].toNat = (hexChar d).toNat := by
  have : ∀ d : Fin 16, (digs.data.toList.getD d.val 0).toNat = (hexChar d.val).toNat := by decide +kernel
  refine ⟨h, ?_⟩
  have h2 := this ⟨d, h⟩
  rwa [getD_byte (s := digs) (k := d) h] at h2
theorem fresh_builder (w : World) : BIs w.heap.size w.heap.size (bvals []) (w.alloc (.cells #[.pointer none, .slice none 0 0] 48)) :=
  .inl ⟨Nat.le_refl _, .slice none 0 0, heap_alloc_new w _, World.ownsRow_nil _ _ _ _, by simp [Value.ownBlock]⟩

theorem builder_snoc {s : ByteArray} {k B b : Nat} {w : World} {d : Nat} {hq : d < digs.size} (hu : hexUpto s (k + 1) = hexUpto s k ++ [hexChar d]) (hc : digs[d].toNat = (hexChar d).toNat)
    (h : BAt B b (.pointer (some ⟨b, 0, none⟩)) (bvals (hexUpto s k) ++ [.int .u8 (digs[d].toNat : Int)]) w) : BIs B b (bvals (hexUpto s (k + 1))) w := by
  rw [hu, bvals_append]
  rw [hc] at h
  exact .inr h

set_option maxHeartbeats 1000000 in
theorem hex_any (s : ByteArray) (w : World) : Calls Try.prog 15 #[.string s] w fun e w' => e = .returned (.string ⟨(hexL s).toArray⟩) ∧ Below w.heap.size w w' := by
  by_cases hs : s.size = 32
  · have HX := hid (hexL_in hs)
    have hb : decide (s.size = 32) = true := by simpa using hs
    go_enter Try.func15, Try.ntmps15
    go_wp2_with (go_at_call 20; refine (good_any _ _).mono ?_; rintro e w' ⟨rfl, rfl⟩)
    go_loopw [8] (fun i wr => ∃ k : Nat, k ≤ 64 ∧ i = .int .i64 k ∧ BIs w.heap.size w.heap.size (bvals (hexUpto s k)) wr ∧ Below w.heap.size w wr) (fun i _ => 64 - (intOf i).toNat)
    case atStart => exact ⟨0, by omega, rfl, fresh_builder w, (Below.refl _ _).alloc (Nat.le_refl _) _⟩
    case round =>
      obtain ⟨k, hk, rfl, hbl, hbel⟩ := hrel
      have hsize := hbel.size
      have hl := hexUpto_length s k
      have hl2 : (bvals (hexUpto s k)).length ≤ 64 := by rw [bvals_length]; omega
      by_cases hlt : k < 64
      · have hd0 := digitN_lt s k
        have ez : digitZ s (k : Int) = ((digitN s k : Nat) : Int) := by rw [digitZ_in hs (by omega) (by omega)]; simp
        have HU0 := hexUpto_succ s k
        obtain ⟨d, hd', hd⟩ : ∃ d, digitN s k = d ∧ d < 16 := ⟨_, rfl, hd0⟩
        rw [hd'] at HU0 ez
        have HU := hid HU0
        obtain ⟨hq, hc⟩ := digs_at d hd
        clear hd' hd0 HU0
        go_wp2_with (first
          | (go_at_call 17; refine (digit_any _ _ _).mono ?_; rintro e w' ⟨rfl, rfl⟩; rw [ez])
          | (go_at_call 30; refine (writeByte_own _ _ _ _ _ hbl (by omega) (by omega)).mono ?_; rintro e w1 ⟨rfl, h1, hb1⟩))
        go_roundw
        case rel => exact ⟨k + 1, by omega, by go_num, builder_snoc HU.out hc h1, hbel.trans hb1⟩
        case measure => simp [intOf]; omega
      · obtain rfl : k = 64 := by omega
        go_wp2_with (go_at_call 31; refine (Try.Builder_String_any _ _ (hexUpto s 64) _ hbl (by omega)).mono ?_; rintro e w1 ⟨rfl, hb1⟩)
        go_ret
        exact ⟨ret_string (by rw [HX.out]), hbel.trans hb1⟩
  · have HX := hid (hexL_out hs)
    have hb : decide (s.size = 32) = false := by simpa using hs
    go_enter Try.func15, Try.ntmps15
    go_wp2_with (go_at_call 20; refine (good_any _ _).mono ?_; rintro e w' ⟨rfl, rfl⟩)
    go_ret
    exact ⟨ret_string (by rw [HX.out]), Below.refl _ _⟩

theorem digs_idx (c : UInt8) (h : isHex c = true) : Lib.indexByte digs.data.toList c = ((hexVal c : Nat) : Int) := by
  have : ∀ n : Fin 256, isHex (UInt8.ofNat n) = true → Lib.indexByte digs.data.toList (UInt8.ofNat n) = ((hexVal (UInt8.ofNat n) : Nat) : Int) := by decide +kernel
  have := this ⟨c.toNat, c.toNat_lt⟩
  simp only [UInt8.ofNat_toNat] at this
  exact this h
theorem idx_lit (c : UInt8) (h : isHex c = true) : Lib.indexByte ({ data := #[48, 49, 50, 51, 52, 53, 54, 55, 56, 57, 97, 98, 99, 100, 101, 102] } : ByteArray).data.toList ((c.toNat : Int)).toNat.toUInt8 = ((hexVal c : Nat) : Int) := by
  have e : ((c.toNat : Int)).toNat.toUInt8 = c := by simp
  rw [e]; exact digs_idx c h
theorem or_byte (A B : Nat) (ha : A < 16) (hb : B < 16) : bits BinOp.or IntKind.i64 ((A : Int) * 16) (B : Int) % 256 = (((16 * A + B).toUInt8).toNat : Int) := by
  have : ∀ A B : Fin 16, bits BinOp.or IntKind.i64 ((A.val : Int) * 16) (B.val : Int) % 256 = (((16 * A.val + B.val).toUInt8).toNat : Int) := by decide +kernel
  exact this ⟨A, ha⟩ ⟨B, hb⟩
theorem unhexUpto_at {s : ByteArray} {k m : Nat} (hm : m = 2 * k) (h1 : m < s.size) (h2 : m + 1 < s.size) :
    unhexUpto s.data.toList (k + 1) = unhexUpto s.data.toList k ++ [(16 * hexVal s[m] + hexVal s[m + 1]).toUInt8] := by
  subst hm; exact unhexUpto_two h1 h2

set_option maxHeartbeats 1000000 in
theorem unhex_any (s : ByteArray) (w : World) : Calls Try.prog 18 #[.string s] w fun e w' => e = .returned (.tuple #[.string ⟨(unhexR s).1.toArray⟩, .int .i64 (unhexR s).2]) ∧ Below w.heap.size w w' := by
  obtain ⟨i0, hi, hz0, hz1, hz2⟩ := info_parts Try.infoB
  by_cases hs : s.size = 64
  · have hb : ((s.size : Int) == 64) = true := by simpa using (by omega : (s.size : Int) = 64)
    have hb2 : ((s.size : Int) != 64) = false := by simp [hs]
    have HS := hid hs
    have hs1 : s.size ≤ 64 := by omega
    have hs2 : 64 ≤ s.size := by omega
    by_cases ha : areDig s.data.toList = true
    · have HA := hid (unhexR_ok hs ha)
      have HD : Hid (∀ k, (h : k < s.size) → isHex s[k] = true) := fun k h => by rw [← getD_byte h]; exact areDig_getD ha (by simpa using h)
      clear hs
      go_enter Try.func18, Try.ntmps18
      go_wp2_with (go_at_call 27; refine (areDigits_any _ _).mono ?_; rintro e w1 ⟨rfl, hb1⟩)
      go_loopw [4, 5] (fun v i wr => ∃ k m : Nat, Hid (m = 2 * k) ∧ m ≤ 64 ∧ i = .int .i64 m ∧ wr.ownsRow w1.heap.size 5 1 v (unhexUpto s.data.toList k).length (bvals (unhexUpto s.data.toList k)) ∧ Below w1.heap.size w1 wr) (fun _ i _ => 64 - (intOf i).toNat)
      case atStart => exact ⟨0, 0, rfl, by omega, rfl, World.ownsRow_nil _ _ _ _, Below.refl _ _⟩
      case round =>
        obtain ⟨k, m, HM, hm, rfl, hown, hbel⟩ := hrel
        have hsize := hbel.size
        have hl := unhexUpto_length s.data.toList k
        have hk2 : k ≤ 32 := by have := HM.out; omega
        by_cases hlt : m < 64
        · have h1 : m < s.size := by omega
          have h2 : m + 1 < s.size := by have := HM.out; omega
          have HU := hid (unhexUpto_at HM.out h1 h2)
          have hx := HD.out _ h1
          have hy := HD.out _ h2
          have PB := hid (pair_byte (hexVal_lt _ hx) (hexVal_lt _ hy))
          have ha := hexVal_lt _ hx
          have hb := hexVal_lt _ hy
          have va := hid (idx_lit _ hx)
          have vb := hid (idx_lit _ hy)
          have hi0 : (0 : Int) ≤ (m : Int) := by omega
          have hi1 : (m : Int) < s.size := by omega
          have hi2 : (m : Int) + 1 < s.size := by omega
          have hi3 : 0 ≤ (m : Int) + 1 := by omega
          clear hx hy
          go_wp2_with fail
          have hwr : IntKind.i64.wrap ((m : Int) + 1) = (m : Int) + 1 := IntWalk.i64_in _ (by omega)
          have hto : ((m : Int) + 1).toNat = m + 1 := by omega
          go_quiet ((go_at_call 33; exact Calls.quiet_of_same (Try.strings_IndexByte _ _ _)))
          clear hwr
          rw [va.out, vb.out]
          obtain ⟨A, hA⟩ : ∃ A, hexVal s[m] = A := ⟨_, rfl⟩
          obtain ⟨B, hB⟩ : ∃ B, hexVal s[m + 1] = B := ⟨_, rfl⟩
          rw [hA] at ha PB HU ⊢
          rw [hB] at hb PB HU ⊢
          clear hA hB va vb
          have hown2 := own_drewN hown nq
          have hbel2 := below_drewN hbel nq
          clear hown hbel hsize
          generalize wr.drewN nq = W2 at hown2 hbel2 ⊢
          have hsize := hbel2.size
          have hor := or_byte A B ha hb
          go_wp2_with (first | (at_builtin; refine wpList_append_own _ rfl (.tmp 27) (.tmp 33) 31 rfl w1.heap.size 5 i0 (.int .u8 0) 1 1 Try.underlying31 hi hz0 hz1 hz2 rfl (by decide) _ _ _ rfl (hown2.alloc _) ⟨W2.heap.size, 0, none⟩ 1 1 [.int .u8 (((16 * A + B).toUInt8).toNat : Int)] rfl rfl (cellNew1 _ _ _) (one_bytes rfl) (by unfold maxLen; omega) (by omega) (by simp; omega) ?_; intro v' w3 hown' hgrow _))
          go_roundw
          case rel => exact ⟨k + 1, m + 2, by have := HM.out; show m + 2 = 2 * (k + 1); omega, by have := HM.out; omega, by go_num, by rw [HU.out]; exact own_snoc hown', below_grown1 hbel2 hown2 _ (by omega) hgrow⟩
          case measure => simp [intOf]; omega
        · obtain rfl : k = 32 := by have := HM.out; omega
          have hconv := conv_own hown
          go_wp2
          go_ret2
          exact ⟨by rw [HA.out]; rfl, below_then hb1 hbel⟩
    · have hf : areDig s.data.toList = false := by simpa using ha
      have HA := hid (unhexR_form hs hf)
      clear hs ha
      go_enter Try.func18, Try.ntmps18
      go_wp2_with (go_at_call 27; refine (areDigits_any _ _).mono ?_; rintro e w1 ⟨rfl, hb1⟩)
      go_ret2
      exact ⟨by rw [HA.out]; rfl, hb1⟩
  · have HX := hid (unhexR_len hs)
    have hb : ((s.size : Int) != 64) = true := by simp; omega
    go_enter Try.func18, Try.ntmps18
    go_wp2
    go_ret2
    exact ⟨by rw [HX.out]; rfl, Below.refl _ _⟩
end Go.Proofs.Ytcglkhcgnafegaa
