/- The reference's left. -/
import Derived.Test.YthjomknhbfplnaaRefJ
import Derived.Test.YthjomknhbfplnaaReelI
namespace Go.Proofs.Ythjomknhbfplnaa
open Go.RowKit Reel
set_option linter.unusedVariables false
attribute [local go_sem ↓] Go.wp_at_zero Go.wp_at_succ

theorem left_plain (t : Spool) (f : Int) (h : ¬ ((kept f (t.bytes.length - t.safe)).2 = true ∧ 0 < (kept f (t.bytes.length - t.safe)).1)) : left t f = ⟨t.bytes.take (t.safe + (kept f (t.bytes.length - t.safe)).1), (t.bytes.take (t.safe + (kept f (t.bytes.length - t.safe)).1)).length⟩ := by
  unfold left; simp only [if_neg h]
theorem left_torn (t : Spool) (f : Int) (h : (kept f (t.bytes.length - t.safe)).2 = true ∧ 0 < (kept f (t.bytes.length - t.safe)).1) : left t f = ⟨tear (t.bytes.take (t.safe + (kept f (t.bytes.length - t.safe)).1)), (tear (t.bytes.take (t.safe + (kept f (t.bytes.length - t.safe)).1))).length⟩ := by
  unfold left; simp only [if_pos h]
set_option maxRecDepth 100000 in
set_option maxHeartbeats 4000000 in
theorem rleft_any (e : Ent) (f : Int) (w : World) (h1 : -9223372036854775808 ≤ f) (h2 : f ≤ 9223372036854775807) (hs : e.2.safe ≤ e.2.bytes.length) (hl : e.2.bytes.length ≤ 4194304) :
    Calls Try.prog 58 #[.agg #[.string e.1, .string (bt e.2.bytes), .int .i64 e.2.safe], .int .i64 f] w fun en w' => en = .returned (.agg #[.string e.1, .string (bt (left e.2 f).bytes), .int .i64 (left e.2 f).safe]) ∧ Below w.heap.size w w' := by
  obtain ⟨x, t⟩ := e
  simp only at hs hl ⊢
  obtain ⟨y, hy⟩ : ∃ y, bt t.bytes = y := ⟨_, rfl⟩
  have hylen : t.bytes.length = y.size := by rw [← hy, bt_size]
  obtain ⟨n0, hn0⟩ : ∃ n0, (kept f (t.bytes.length - t.safe)).1 = n0 := ⟨_, rfl⟩
  obtain ⟨tn, htn⟩ : ∃ tn, (kept f (t.bytes.length - t.safe)).2 = tn := ⟨_, rfl⟩
  have hnle : n0 ≤ t.bytes.length - t.safe := by rw [← hn0]; exact kept_le _ _
  have hex : y.extract 0 (t.safe + n0) = bt (t.bytes.take (t.safe + n0)) := by rw [← hy]; exact bt_take _ _ (by omega)
  have hkept : (0 ≤ f ∧ tn = false ∧ (f = n0 ∨ (n0 = t.bytes.length - t.safe ∧ (n0 : Int) < f))) ∨ (f < 0 ∧ tn = true ∧ (f = -(n0 : Int) ∨ (n0 = t.bytes.length - t.safe ∧ f < -(n0 : Int)))) := by
    unfold kept at hn0 htn
    split at hn0
    · rename_i h0
      rw [if_pos h0] at htn
      simp only at hn0 htn
      left; refine ⟨h0, htn.symm, ?_⟩; omega
    · rename_i h0
      rw [if_neg h0] at htn
      right
      split at hn0
      · rename_i h3
        rw [if_pos h3] at htn
        simp only at hn0 htn
        refine ⟨by omega, htn.symm, ?_⟩; omega
      · rename_i h3
        rw [if_neg h3] at htn
        simp only at hn0 htn
        refine ⟨by omega, htn.symm, ?_⟩; omega
  by_cases htorn : tn = true ∧ 0 < n0
  · obtain ⟨rfl, hnp⟩ := htorn
    have hz : (t.bytes.take (t.safe + n0)).length = t.safe + n0 := by rw [List.length_take]; omega
    have hL : left t f = ⟨tear (t.bytes.take (t.safe + n0)), (tear (t.bytes.take (t.safe + n0))).length⟩ := by
      have := left_torn t f (by rw [hn0, htn]; exact ⟨rfl, hnp⟩)
      rw [hn0] at this; exact this
    have hzs : (y.extract 0 (t.safe + n0)).size = t.safe + n0 := by rw [hex, bt_size, hz]
    rw [hL, tear_len, hz]
    obtain ⟨Z, hZ⟩ : ∃ Z, t.safe + n0 = Z := ⟨_, rfl⟩
    have hsplit : ∃ A cb, t.bytes.take Z = A ++ [cb] ∧ A.length = Z - 1 := by
      have hne : t.bytes.take Z ≠ [] := by intro h0; have := congrArg List.length h0; rw [← hZ, hz] at this; simp at this; omega
      refine ⟨(t.bytes.take Z).dropLast, (t.bytes.take Z).getLast hne, (List.dropLast_concat_getLast hne).symm, ?_⟩
      rw [List.length_dropLast, ← hZ, hz]
    obtain ⟨A, cb, hA, hAl⟩ := hsplit
    have hzz : y.extract 0 Z = bt (A ++ [cb]) := by rw [← hZ, hex, hZ, hA]
    obtain ⟨z, hz2⟩ : ∃ z, y.extract 0 Z = z := ⟨_, rfl⟩
    have hzsz : z.size = Z := by rw [← hz2, ← hZ]; exact hzs
    have hzl : z.data.toList = A ++ [cb] := by rw [← hz2, hzz, bt_list]
    have hZ1 : 1 ≤ Z := by omega
    have HRES : Hid (z.extract 0 (Z - 1) ++ ⟨#[cb ^^^ 0x55]⟩ = bt (tear (t.bytes.take Z))) := by
      show z.extract 0 (Z - 1) ++ ⟨#[cb ^^^ 0x55]⟩ = bt (tear (t.bytes.take Z))
      rw [hA, tear_snoc]
      apply ba_ext
      rw [bt_list, ByteArray.data_append, Array.toList_append, ByteArray.data_extract, Array.toList_extract, hzl]
      simp [List.extract, ← hAl]
    have hgl : Z - 1 < z.size := by omega
    have hcb : z[Z - 1] = cb := by
      have h1 : z.data.toList[Z - 1]? = some cb := by rw [hzl, ← hAl]; simp
      rw [List.getElem?_eq_getElem (by simpa using hgl)] at h1
      injection h1
    simp only [hZ]
    rw [← HRES.out]
    show Calls _ _ _ _ fun en w' => en = .returned (.agg #[.string x, .string (z.extract 0 (Z - 1) ++ ⟨#[cb ^^^ 0x55]⟩), .int .i64 (Z : Int)]) ∧ _
    obtain ⟨sf, hsf⟩ : ∃ sf, t.safe = sf := ⟨_, rfl⟩
    rw [hsf] at hkept hs hnle hZ ⊢
    rw [hylen] at hkept hs hl hnle
    rw [hy]
    obtain ⟨K, hK⟩ : ∃ K, y.size - sf = K := ⟨_, rfl⟩
    have hsub : IntKind.i64.wrap ((y.size : Int) - sf) = (K : Int) := by rw [IntKind.wrap_i64]; omega
    rw [hK] at hkept hnle
    have HZE : Hid (y.extract 0 (sf + n0) = z) := by show y.extract 0 (sf + n0) = z; rw [hZ, hz2]
    have HZZ := hid hzsz
    have HCB : Hid (∀ h : z.size - 1 < z.size, z[z.size - 1]'h = cb) := fun h => by simp only [hzsz]; exact hcb
    have hle : sf + n0 ≤ y.size := by omega
    have hlei : (sf : Int) + n0 ≤ y.size := by omega
    have hz4 : z.size ≤ 4194304 := by rw [hzsz]; omega
    have hz1 : 1 ≤ z.size := by rw [hzsz]; exact hZ1
    have hw1 : IntKind.i64.wrap ((z.size : Int) - 1) = ((z.size - 1 : Nat) : Int) := by rw [IntKind.wrap_i64]; omega
    have hi0 : (0 : Int) ≤ (z.size : Int) - 1 := by omega
    have hi1 : ((z.size - 1 : Nat) : Int) < z.size := by omega
    have gz : decide ((0 : Int) < n0) = true := by simp; omega
    have HK := hid hK
    have HRZ : Hid (∀ R, z.extract 0 (z.size - 1) ++ ⟨#[cb ^^^ 0x55]⟩ = R → R.size = Z) := fun R hR => by
      rw [← hR, ByteArray.size_append, ByteArray.size_extract]
      show min (z.size - 1) z.size - 0 + 1 = Z
      omega
    have hx : ∀ h : z.size - 1 < z.size, bits .xor .u8 ((z[z.size - 1]'h).toNat : Int) 85 = ((cb ^^^ 0x55).toNat : Int) := fun h => by
      rw [HCB.out h, u8_xor _ _ (by omega) (by have := cb.toNat_lt; omega) (by omega) (by omega)]
      simp
    have hconv : (convert 61 9 (.slice (some ⟨w.heap.size + 1 + 1, 0, none⟩) 1 1)).run Try.prog (((w.alloc (.cells #[.string x, .string y, .int .i64 sf] 79)).alloc (.cells #[.string ⟨#[]⟩, .string ⟨#[]⟩, .int .i64 0] 79)).alloc (.cells #[.int .u8 ((cb.toNat ^^^ 85 : Nat) : Int)] 5)).drew = .ok (.string ⟨#[cb ^^^ 0x55]⟩) (((w.alloc (.cells #[.string x, .string y, .int .i64 sf] 79)).alloc (.cells #[.string ⟨#[]⟩, .string ⟨#[]⟩, .int .i64 0] 79)).alloc (.cells #[.int .u8 ((cb.toNat ^^^ 85 : Nat) : Int)] 5)).drew := by
      refine run_convert_bytes_back _ _ _ _ _ 1 [cb ^^^ 0x55] Try.underlying61 Try.underlying5 Try.underlying9 ?_
      intro j hj
      obtain rfl : j = 0 := by simpa using hj
      have := (Blk.new ((w.alloc (.cells #[.string x, .string y, .int .i64 sf] 79)).alloc (.cells #[.string ⟨#[]⟩, .string ⟨#[]⟩, .int .i64 0] 79)) 5 #[.int .u8 ((cb.toNat ^^^ 85 : Nat) : Int)]).cell 0
      simpa [Addr.add] using this
    clear hL hex hz hn0 htn hy hylen hsf hzs hZ hAl hzz hz2 hzsz hzl HRES hcb hgl hZ1 hK hA
    obtain ⟨hf0, hfn⟩ : f < 0 ∧ (f = -(n0 : Int) ∨ (n0 = K ∧ f < -(n0 : Int))) := by
      rcases hkept with ⟨_, h, _⟩ | ⟨h1, _, h2⟩
      · cases h
      · exact ⟨h1, h2⟩
    clear hkept
    rcases hfn with rfl | ⟨rfl, hfn⟩
    · have g0 : decide (-(n0 : Int) < 0) = true := by simp; omega
      have g1 : decide ((K : Int) < n0) = false := by simp; omega
      go_enter Try.func58, Try.ntmps58
      go_wp2_with fail
      rw [HZE.out]
      clear hle hlei hs
      go_region_with ((fail))
      obtain ⟨R, hR⟩ : ∃ R, z.extract 0 (z.size - 1) ++ ⟨#[cb ^^^ 0x55]⟩ = R := ⟨_, rfl⟩
      have HRS := hid (HRZ.out R hR)
      have HRR := hid hR
      rw [hR]
      clear hR hconv hx
      go_wp2
      exact bodyPost_ret (v := .agg #[.string x, .string R, .int .i64 (R.size : Int)]) (by simp [results, Try.results58, go_sem]) rfl ⟨by rw [HRS.out, ← HZZ.out, HRR.out], ((((Below.refl _ _).alloc (Nat.le_refl _) _).alloc (by simp) _).alloc (by simp; omega) _).drew⟩
    · have g0 : decide (f < 0) = true := by simp; omega
      by_cases hfm : f = -9223372036854775808
      · subst hfm
        have g3 : wrap64 9223372036854775808 = -9223372036854775808 := by decide +kernel
        go_enter Try.func58, Try.ntmps58
        go_wp2_with fail
        rw [HZE.out]
        clear hle hlei hs
        go_region_with ((fail))
        obtain ⟨R, hR⟩ : ∃ R, z.extract 0 (z.size - 1) ++ ⟨#[cb ^^^ 0x55]⟩ = R := ⟨_, rfl⟩
        have HRS := hid (HRZ.out R hR)
        have HRR := hid hR
        rw [hR]
        clear hR hconv hx
        go_wp2
        exact bodyPost_ret (v := .agg #[.string x, .string R, .int .i64 (R.size : Int)]) (by simp [results, Try.results58, go_sem]) rfl ⟨by rw [HRS.out, ← HZZ.out, HRR.out], ((((Below.refl _ _).alloc (Nat.le_refl _) _).alloc (by simp) _).alloc (by simp; omega) _).drew⟩
      · have g1 : decide ((n0 : Int) < -f) = true := by simp; omega
        have g2 : IntKind.i64.wrap (-f) = -f := by rw [IntKind.wrap_i64]; omega
        go_enter Try.func58, Try.ntmps58
        go_wp2_with fail
        rw [HZE.out]
        clear hle hlei hs
        go_region_with ((fail))
        obtain ⟨R, hR⟩ : ∃ R, z.extract 0 (z.size - 1) ++ ⟨#[cb ^^^ 0x55]⟩ = R := ⟨_, rfl⟩
        have HRS := hid (HRZ.out R hR)
        have HRR := hid hR
        rw [hR]
        clear hR hconv hx
        go_wp2
        exact bodyPost_ret (v := .agg #[.string x, .string R, .int .i64 (R.size : Int)]) (by simp [results, Try.results58, go_sem]) rfl ⟨by rw [HRS.out, ← HZZ.out, HRR.out], ((((Below.refl _ _).alloc (Nat.le_refl _) _).alloc (by simp) _).alloc (by simp; omega) _).drew⟩
  · have hL : left t f = ⟨t.bytes.take (t.safe + n0), (t.bytes.take (t.safe + n0)).length⟩ := by
      have := left_plain t f (by rw [hn0, htn]; exact htorn)
      rw [hn0] at this; exact this
    have hz : (t.bytes.take (t.safe + n0)).length = t.safe + n0 := by rw [List.length_take]; omega
    rw [hL, ← hex, hz]
    have HEX : Hid ((y.extract 0 (t.safe + n0)).size = t.safe + n0) := by show _ = _; rw [hex, bt_size, hz]
    obtain ⟨sf, hsf⟩ : ∃ sf, t.safe = sf := ⟨_, rfl⟩
    rw [hsf] at hkept hs hnle HEX ⊢
    rw [hylen] at hkept hs hl hnle
    rw [hy]
    obtain ⟨K, hK⟩ : ∃ K, y.size - sf = K := ⟨_, rfl⟩
    have hsub : IntKind.i64.wrap ((y.size : Int) - sf) = (K : Int) := by rw [IntKind.wrap_i64]; omega
    have hyk : (y.size : Int) = sf + K := by omega
    have HYK := hid hyk; have HSUB := hid hsub
    rw [hK] at hkept hnle
    clear hL hex hz hn0 htn hy hylen hsf hyk hsub
    have HMIN : Hid (min (sf + n0) y.size = sf + n0) := by show min (sf + n0) y.size = sf + n0; omega
    have hsub := HSUB.out
    have hle : sf + n0 ≤ y.size := by omega
    have hlei : (sf : Int) + n0 ≤ y.size := by omega
    rcases hkept with ⟨hf0, htf, hfn⟩ | ⟨hf0, htf, hfn⟩
    · rcases hfn with rfl | ⟨rfl, hfn⟩
      · have g0 : decide ((n0 : Int) < 0) = false := by simp
        have g1 : decide ((K : Int) < n0) = false := by simp; omega
        clear hK
        go_enter Try.func58, Try.ntmps58
        go_wp2_with fail
        first
          | exact bodyPost_ret (v := .agg #[.string x, .string (y.extract 0 (sf + n0)), .int .i64 ((sf : Int) + (n0 : Int))]) (by simp [results, Try.results58, go_sem]) rfl ⟨by rw [show ((sf : Int) + (n0 : Int)) = ((sf + n0 : Nat) : Int) by omega], ((Below.refl _ _).alloc (Nat.le_refl _) _).alloc (by simp) _⟩
          | exact bodyPost_ret (v := .agg #[.string x, .string (y.extract 0 sf), .int .i64 (sf : Int)]) (by simp [results, Try.results58, go_sem]) rfl ⟨rfl, ((Below.refl _ _).alloc (Nat.le_refl _) _).alloc (by simp) _⟩
      · have g0 : decide (f < 0) = false := by simp; omega
        have g1 : decide ((n0 : Int) < f) = true := by simp; omega
        clear hK
        go_enter Try.func58, Try.ntmps58
        go_wp2_with fail
        first
          | exact bodyPost_ret (v := .agg #[.string x, .string (y.extract 0 (sf + n0)), .int .i64 ((sf : Int) + (n0 : Int))]) (by simp [results, Try.results58, go_sem]) rfl ⟨by rw [show ((sf : Int) + (n0 : Int)) = ((sf + n0 : Nat) : Int) by omega], ((Below.refl _ _).alloc (Nat.le_refl _) _).alloc (by simp) _⟩
          | exact bodyPost_ret (v := .agg #[.string x, .string (y.extract 0 sf), .int .i64 (sf : Int)]) (by simp [results, Try.results58, go_sem]) rfl ⟨rfl, ((Below.refl _ _).alloc (Nat.le_refl _) _).alloc (by simp) _⟩
    · have hK0 : n0 = 0 ∧ K = 0 ∧ f < 0 := by
        have : ¬ 0 < n0 := fun h => htorn ⟨htf, h⟩
        refine ⟨by omega, ?_, hf0⟩
        rcases hfn with h | ⟨h, _⟩
        · omega
        · omega
      obtain ⟨hn00, hK00, hf0⟩ := hK0
      subst hn00 hK00
      have g0 : decide (f < 0) = true := by simp; omega
      clear hfn hK
      by_cases hfm : f = -9223372036854775808
      · subst hfm
        have g3 : wrap64 9223372036854775808 = -9223372036854775808 := by decide +kernel
        go_enter Try.func58, Try.ntmps58
        go_wp2_with fail
        first
          | exact bodyPost_ret (v := .agg #[.string x, .string (y.extract 0 (sf + 0)), .int .i64 ((sf : Int) + ((0 : Nat) : Int))]) (by simp [results, Try.results58, go_sem]) rfl ⟨by rw [show ((sf : Int) + ((0 : Nat) : Int)) = ((sf + 0 : Nat) : Int) by omega], ((Below.refl _ _).alloc (Nat.le_refl _) _).alloc (by simp) _⟩
          | exact bodyPost_ret (v := .agg #[.string x, .string (y.extract 0 sf), .int .i64 (sf : Int)]) (by simp [results, Try.results58, go_sem]) rfl ⟨rfl, ((Below.refl _ _).alloc (Nat.le_refl _) _).alloc (by simp) _⟩
      · have g1 : decide ((0 : Int) < -f) = true := by simp; omega
        have g2 : IntKind.i64.wrap (-f) = -f := by rw [IntKind.wrap_i64]; omega
        go_enter Try.func58, Try.ntmps58
        go_wp2_with fail
        first
          | exact bodyPost_ret (v := .agg #[.string x, .string (y.extract 0 (sf + 0)), .int .i64 ((sf : Int) + ((0 : Nat) : Int))]) (by simp [results, Try.results58, go_sem]) rfl ⟨by rw [show ((sf : Int) + ((0 : Nat) : Int)) = ((sf + 0 : Nat) : Int) by omega], ((Below.refl _ _).alloc (Nat.le_refl _) _).alloc (by simp) _⟩
          | exact bodyPost_ret (v := .agg #[.string x, .string (y.extract 0 sf), .int .i64 (sf : Int)]) (by simp [results, Try.results58, go_sem]) rfl ⟨rfl, ((Below.refl _ _).alloc (Nat.le_refl _) _).alloc (by simp) _⟩
end Go.Proofs.Ythjomknhbfplnaa
