/- The walk of the statement IdentShort. -/
import Derived.Test.YtcglkhcgnafegaaIdArrs
import Derived.Test.YtcglkhcgnafegaaIdLawC
namespace Go.Proofs.Ytcglkhcgnafegaa
open Go.RowKit Idp
set_option linter.unusedVariables false

theorem modN (at' : Int) {n : Nat} (h : 0 < n) (hn : n ≤ 100) : ∃ q : Nat, (IntKind.u64.wrap at').tmod (n : Int) = (q : Int) ∧ wrap64 ((IntKind.u64.wrap at').tmod (n : Int)) = (q : Int) ∧ q < n := by
  have h0 : 0 ≤ IntKind.u64.wrap at' := by simp only [IntKind.wrap, IntKind.signed, IntKind.bits]; simp; omega
  have h1 : (IntKind.u64.wrap at').tmod (n : Int) = (IntKind.u64.wrap at') % (n : Int) := Int.tmod_eq_emod_of_nonneg h0
  have h2 := Int.emod_lt_of_pos (IntKind.u64.wrap at') (show (0 : Int) < n by omega)
  have h3 := Int.emod_nonneg (IntKind.u64.wrap at') (show (n : Int) ≠ 0 by omega)
  refine ⟨((IntKind.u64.wrap at') % (n : Int)).toNat, ?_, ?_, by omega⟩
  · rw [h1, Int.toNat_of_nonneg h3]
  · rw [h1, Int.toNat_of_nonneg h3]; exact IntWalk.wrap64_in _ (by omega)

set_option maxHeartbeats 4000000 in
set_option maxRecDepth 100000 in
theorem walk_IdentShort (a : Option Addr) (n c : Nat) (l : List ByteArray) (at' : Int) (w : World) (hS : ArrsAt w a n l) (hw : (Lit.int .i64 at').wf = true) :
    Calls Try.prog 5 #[.slice a n c, .int .i64 at'] w fun e w' => e = .returned (.bool true) ∧ Below w.heap.size w w' := by
  obtain ⟨i0, hi, hz0, hz1, hz2⟩ := info_parts Try.infoS
  have hl := hS.1
  by_cases h0 : n = 0
  · have hb : ((n : Int) == 0) = true := by simp; omega
    go_enter Try.func5, Try.ntmps5
    go_wp2_with (go_at_call 9; refine (awake_any _).mono ?_; rintro e w1 ⟨rfl, hb1⟩)
    go_ret
    exact ⟨rfl, hb1⟩
  · have hb : ((n : Int) == 0) = false := by simp; omega
    by_cases h100 : n ≤ 100
    · have hb2 : ¬ (100 : Int) < n := by omega
      obtain ⟨b, off, rfl⟩ : ∃ b off, a = some ⟨b, off, none⟩ := by
        obtain ⟨b, off, h, _⟩ := hS.2.2.2.resolve_left h0; exact ⟨b, off, h⟩
      go_enter Try.func5, Try.ntmps5
      go_wp2_with (go_at_call 9; refine (awake_any _).mono ?_; rintro e w1 ⟨rfl, hb1⟩)
      have hS1 := hS.later hb1
      go_loopw [5, 6] (fun v i wr => ∃ k : Nat, k ≤ n ∧ i = .int .i64 k ∧ wr.ownsRow w1.heap.size 9 1 v (l.take k).length (svals (l.take k)) ∧ Below w1.heap.size w1 wr) (fun _ i _ => n - (intOf i).toNat)
      case atStart => exact ⟨0, by omega, rfl, World.ownsRow_made _ _ 0 (Nat.le_refl _) (by unfold maxLen; omega) rfl, (Below.refl _ _).alloc (Nat.le_refl _) _⟩
      case round =>
        obtain ⟨k, hk, rfl, hown, hbel⟩ := hrel
        have hsize := hbel.size
        by_cases hlt : k < n
        · have hSr := hS1.later hbel
          have hconv := hSr.conv hlt
          have HT := hid (take_snoc (l := l) (k := k) (by omega))
          obtain ⟨x, hx⟩ : ∃ x, l.getD k ByteArray.empty = x := ⟨_, rfl⟩
          rw [hx] at hconv HT
          have hlk : (l.take k).length = k := by rw [List.length_take]; omega
          have HLK := hid hlk
          clear hx hlk
          have i1 : (0 : Int) ≤ (k : Int) := by omega
          have i2 : (k : Int) < n := by omega
          go_wp2_with (first
            | (at_builtin; (refine wpList_append_own _ rfl (.tmp 32) (.tmp 38) 22 rfl w1.heap.size 9 i0 (.string ⟨#[]⟩) 1 16 Try.underlying22 hi hz0 hz1 hz2 rfl (by decide) _ _ _ rfl (hown.alloc _) ⟨wr.heap.size, 0, none⟩ 1 1 [.string x] rfl rfl (cellNew1 _ _ _) (one_bytes rfl) (by have := HLK.out; unfold maxLen; omega) (by have := HLK.out; omega) (by simp; omega) ?_; intro v' w3 hown' hgrow _)))
          go_roundw
          case rel => exact ⟨k + 1, by omega, by go_num, by rw [HT.out]; exact own_string_snoc hown', below_grown1 hbel hown _ (by omega) hgrow⟩
          case measure => simp [intOf]; omega
        · obtain rfl : k = n := by omega
          rw [show l.take k = l from by rw [← hl, List.take_length]] at hown
          obtain ⟨fa, fc, rfl, hSf⟩ := own_strs hown (by omega)
          rw [hl] at hSf
          obtain ⟨q, hq, hq', hqn⟩ := modN at' (n := k) (by omega) h100
          have hqi : (q : Int) < (k : Int) := by omega
          obtain ⟨fb, fo, rfl, hc⟩ := hSf.2.2.resolve_left (by omega)
          have hcq := hc q hqn
          simp only [hl]
          have hid_in : ∃ o ∈ l, o = l.getD q ByteArray.empty := ⟨_, by rw [List.getD_eq_getElem?_getD, List.getElem?_eq_getElem (by omega)]; exact List.getElem_mem _, rfl⟩
          obtain ⟨X, hX⟩ : ∃ X, l.getD q ByteArray.empty = X := ⟨_, rfl⟩
          rw [hX] at hid_in hcq
          have hX32 : X.size = 32 := by obtain ⟨o, ho, rfl⟩ := hid_in; exact hS.2.2.1 _ ho
          clear hX hc
          have hM := most_le (l := l) hX32
          have hM4 := most_ge l X
          have hsr := shortR_yes hX32 hid_in
          have hfM := findR_hex hX32 hid_in (n := mostUpto l X) hM4 hM
          have hf64 := findR_hex hX32 hid_in (n := 64) (by omega) (Nat.le_refl _)
          have hfp : ∀ j, 4 ≤ j → j < mostUpto l X → findR l (hexUpto X j) = (ByteArray.empty, 6) := fun j h1 h2 => by
            rw [findR_hex hX32 hid_in h1 (by omega), if_neg (by omega)]
          rw [if_pos (Nat.le_refl _)] at hfM
          rw [if_pos hM] at hf64
          rw [hexL_in hX32, hexUpto_take X hM] at hsr
          have hhas : has X (hexUpto X (mostUpto l X)) = true := (has_hex hX32 hX32 hM).2 (by rw [share_self hX32]; exact hM)
          obtain ⟨M, hMM⟩ : ∃ M, mostUpto l X = M := ⟨_, rfl⟩
          rw [hMM] at hM hM4 hsr hfM hfp hhas
          clear hMM
          obtain ⟨S, hSS⟩ : ∃ S : ByteArray, (⟨(hexUpto X M).toArray⟩ : ByteArray) = S := ⟨_, rfl⟩
          have hSsz : S.size = M := by rw [← hSS]; simp [ByteArray.size, hexUpto_length]
          have hSd : S.data.toList = hexUpto X M := by rw [← hSS]
          rw [← hSd] at hhas hfM
          obtain ⟨G, hGG⟩ : ∃ G : ByteArray, (⟨(hexL X).toArray⟩ : ByteArray) = G := ⟨_, rfl⟩
          have hGd : G.data.toList = hexUpto X 64 := by rw [← hGG, hexL_in hX32]
          rw [← hGd] at hf64
          obtain ⟨D, hD⟩ : ∃ D : ByteArray, S.extract 0 (M - 1) = D := ⟨_, rfl⟩
          have hDd : 4 < M → findR l D.data.toList = (ByteArray.empty, 6) := fun h => by
            rw [← hD, ← hSS, extract_take, hexUpto_take X (by omega)]; exact hfp _ (by omega) (by omega)
          have cS : ∀ w, StrsAt w (some ⟨fb, fo, none⟩) k l → Calls Try.prog 12 #[.slice (some ⟨fb, fo, none⟩) k fc, .string X] w fun e w' => e = .returned (.string S) ∧ Below w.heap.size w w' := fun w h => by
            have := short_any _ k fc l X w h; rw [hsr, hSS] at this; exact this
          have cG : ∀ w, Calls Try.prog 15 #[.string X] w fun e w' => e = .returned (.string G) ∧ Below w.heap.size w w' := fun w => by rw [← hGG]; exact hex_any X w
          have cF1 : ∀ w, StrsAt w (some ⟨fb, fo, none⟩) k l → Calls Try.prog 10 #[.slice (some ⟨fb, fo, none⟩) k fc, .string S] w fun e w' => e = .returned (.tuple #[.string X, .int .i64 0]) ∧ Below w.heap.size w w' := fun w h => by
            have := find_any _ k fc l S w h (by omega); rw [hfM] at this; exact this
          have cF2 : ∀ w, StrsAt w (some ⟨fb, fo, none⟩) k l → Calls Try.prog 10 #[.slice (some ⟨fb, fo, none⟩) k fc, .string G] w fun e w' => e = .returned (.tuple #[.string X, .int .i64 0]) ∧ Below w.heap.size w w' := fun w h => by
            have := find_any _ k fc l G w h (by omega); rw [hf64] at this; exact this
          have cF3 : ∃ U V, (4 < M → V = 6) ∧ ∀ w, StrsAt w (some ⟨fb, fo, none⟩) k l → Calls Try.prog 10 #[.slice (some ⟨fb, fo, none⟩) k fc, .string D] w fun e w' => e = .returned (.tuple #[.string U, .int .i64 V]) ∧ Below w.heap.size w w' :=
            ⟨(findR l D.data.toList).1, (findR l D.data.toList).2, fun h => by rw [hDd h], fun w h => find_any _ k fc l D w h (by omega)⟩
          obtain ⟨U, V, hV, cF3⟩ := cF3
          have CS := hid cS; have CG := hid cG; have CF1 := hid cF1; have CF2 := hid cF2; have CF3 := hid cF3; have HV := hid hV
          have HD := hid hD
          clear cS cG cF1 cF2 cF3 hV hfM hf64 hfp hDd hGG hSS hsr hid_in hSd hGd hD
          have HB := below_then hb1 hbel
          go_wp2_with fail
          refine (CS.out _ hSf).mono ?_; rintro e w4 ⟨rfl, hb4⟩
          have hS4 := hSf.later hb4
          replace HB := below_then HB hb4
          have m1 : ¬ (M : Int) < 4 := by omega
          have m2 : ¬ (64 : Int) < M := by omega
          go_wp2_with fail
          refine (has_any _ _ _).mono ?_; rintro e w5 ⟨rfl, hb5⟩
          have hS5 := hS4.later hb5
          replace HB := below_then HB hb5
          go_wp2_with fail
          refine (CF1.out _ hS5).mono ?_; rintro e w6 ⟨rfl, hb6⟩
          have hS6 := hS5.later hb6
          replace HB := below_then HB hb6
          go_wp2_with fail
          refine (CG.out _).mono ?_; rintro e w7 ⟨rfl, hb7⟩
          have hS7 := hS6.later hb7
          replace HB := below_then HB hb7
          go_wp2_with fail
          refine (CF2.out _ hS7).mono ?_; rintro e w8 ⟨rfl, hb8⟩
          have hS8 := hS7.later hb8
          replace HB := below_then HB hb8
          go_wp2_with fail
          rw [HD.out]
          refine (CF3.out _ hS8).mono ?_; rintro e w9 ⟨rfl, hb9⟩
          replace HB := below_then HB hb9
          by_cases hm4 : M = 4
          · have m3 : ((M : Int) == 4) = true := by simp; omega
            go_wp2
            go_ret
            exact ⟨rfl, HB⟩
          · have m3 : ((M : Int) == 4) = false := by simp; omega
            have hv : (V == 6) = true := by rw [HV.out (by omega)]; rfl
            go_wp2
            go_ret
            exact ⟨rfl, HB⟩
    · have hb2 : (100 : Int) < n := by omega
      go_enter Try.func5, Try.ntmps5
      go_wp2_with (go_at_call 9; refine (awake_any _).mono ?_; rintro e w1 ⟨rfl, hb1⟩)
      go_ret
      exact ⟨rfl, hb1⟩
end Go.Proofs.Ytcglkhcgnafegaa
