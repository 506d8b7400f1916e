/- The walk of ReelFull. -/
import Derived.Test.YthjomknhbfplnaaReelDoes
import Derived.Test.YthjomknhbfplnaaStrs
namespace Go.Proofs.Ythjomknhbfplnaa
open Go.RowKit Reel
set_option linter.unusedVariables false

theorem acts_get {w : World} {a : Option Addr} {n : Nat} (h : ActsAt w a n) {j : Nat} (hj : j < n) : ∃ b off x fa fn fc, a = some ⟨b, off, none⟩ ∧ b < w.heap.size ∧ ActAt w b (off + j * 5) x fa fn fc := by
  obtain ⟨-, h⟩ := h
  rcases h with h | ⟨b, off, ha, hc⟩
  · omega
  · obtain ⟨x, fa, fn, fc, hx⟩ := hc j hj
    exact ⟨b, off, x, fa, fn, fc, ha, World.block_lt_of_cell? w _ hx.kind, hx⟩
set_option maxRecDepth 100000 in
set_option maxHeartbeats 8000000 in
theorem walk_ReelFull (room : Int) (a : Option Addr) (n c : Nat) (w : World) (hr1 : -9223372036854775808 ≤ room) (hr2 : room ≤ 9223372036854775807) (hs : ActsAt w a n) :
    Calls Try.prog 7 #[.int .i64 room, .slice a n c] w fun e w' => e = .returned (.bool true) ∧ Below w.heap.size w w' := by
  have HS := hid hs
  have hn63 := hs.1
  clear hs
  obtain ⟨r, hr⟩ : ∃ k : Nat, (IntKind.u64.wrap room).tmod 300 = k := by
    refine ⟨((IntKind.u64.wrap room).tmod 300).toNat, ?_⟩
    have h0 : 0 ≤ IntKind.u64.wrap room := by rw [IntKind.wrap_u64]; omega
    have := Int.tmod_nonneg 300 h0
    omega
  have hr3 : r < 300 := by
    have := Int.tmod_lt_of_pos (IntKind.u64.wrap room) (show (0 : Int) < 300 by omega)
    omega
  have e4 : IntKind.u64.wrap (r : Int) = r := by rw [IntKind.wrap_u64]; omega
  have e5 : IntKind.i64.wrap (r : Int) = r := by rw [IntKind.wrap_i64]; omega
  go_enter Try.func7, Try.ntmps7
  go_wp2_with fail
  refine (awake_any _).mono ?_; rintro e w1 ⟨rfl, b1⟩
  go_wp2_with fail
  refine (new_D (B := w.heap.size) (r : Int) b1.size).mono ?_; rintro e w2 ⟨p, rfl, d, b2⟩
  have b2 := b1.trans (b2.mono b1.size)
  have D2 := hid d; have B2 := hid b2
  have R0 : (Reel.new (r : Int)).room = r := by show roomOf r = r; unfold roomOf; rw [if_neg (by omega), if_neg (by omega)]; omega
  have I0 : Hid ((Reel.new (r : Int)).Fits 0 ∧ (Reel.new (r : Int)).room = r ∧ (Reel.new (r : Int)).used ≤ r) := ⟨⟨Nat.le_refl _, Nat.le_refl _, Nat.zero_le _⟩, R0, Nat.zero_le _⟩
  clear d b1 b2 R0 hr e4 e5
  go_wp2_with fail
  go_loopw [6] (fun iv wr => ∃ (j : Nat) (S : St), j ≤ 80 ∧ j ≤ n ∧ iv = .int .i64 j ∧ Hid (D w.heap.size wr p S) ∧ Hid (S.Fits j ∧ S.room = r ∧ S.used ≤ r) ∧ Hid (Below w.heap.size w wr)) (fun i _ => 80 - (intOf i).toNat)
  case atStart => exact ⟨0, _, by omega, by omega, rfl, D2, I0, B2⟩
  case round =>
    clear D2 I0 B2
    obtain ⟨j, S, hj80, hjn, rfl, DX, IX, bel⟩ := hrel
    by_cases hgo : j < n ∧ j < 80
    · obtain ⟨hj, hj8⟩ := hgo
      have cj1 : (j : Int) < n := by omega
      have cj2 : (j : Int) < 80 := by omega
      obtain ⟨ab, aoff, x, fa, fn, fc, rfl, hab, hac⟩ := acts_get HS.out hj
      have lift : ∀ o v, w.cell? ⟨ab, o, none⟩ = some v → wr.cell? ⟨ab, o, none⟩ = some v := fun o v h => (World.cell?_of_block (bel.out.block ab hab)).trans h
      have HAC := hid hac
      obtain ⟨kind, name, text, nn, fates⟩ := x
      have c0 : wr.cell? ⟨ab, aoff + j * 5, none⟩ = some (.int .i64 kind) := lift _ _ hac.kind
      have c1 : wr.cell? ⟨ab, aoff + j * 5 + 1, none⟩ = some (.string name) := lift _ _ hac.name
      have c2 : wr.cell? ⟨ab, aoff + j * 5 + 2, none⟩ = some (.string text) := lift _ _ hac.text
      have c3 : wr.cell? ⟨ab, aoff + j * 5 + 3, none⟩ = some (.int .i64 nn) := lift _ _ hac.n
      have c4 : wr.cell? ⟨ab, aoff + j * 5 + 4, none⟩ = some (.slice fa fn fc) := lift _ _ hac.fates
      have hints : IntsAt w fa fn fates := hac.ints
      have hwf := hac.wf
      have HI := hid hints
      have HWF := hid hwf
      clear hac lift hints hwf
      have hBW : w.heap.size ≤ wr.heap.size := bel.out.size
      have HBW := hid hBW
      clear hBW
      have hal : Below wr.heap.size wr (wr.alloc (.cells #[.int .i64 kind, .string name, .string text, .int .i64 nn, .slice fa fn fc] 46)) := (Below.refl _ _).alloc (Nat.le_refl _) _
      have HAL := hid hal
      clear hal
      by_cases htx : text.size ≤ 4096
      · have g1 : ¬ (4096 : Int) < text.size := by omega
        by_cases hk : kind = 8 ∨ kind = 9
        · rcases hk with rfl | rfl
          all_goals
            go_wp2_with fail
            go_roundw
            case rel => exact ⟨j + 1, S, by omega, by omega, by go_num, DX.out.below HAL.out, ⟨⟨Nat.le_succ_of_le IX.out.1.1, Nat.le_succ_of_le IX.out.1.2.1, IX.out.1.2.2⟩, IX.out.2⟩, bel.out.trans (HAL.out.mono HBW.out)⟩
            case measure => simp [intOf]; omega
        · have k8 : (kind == 8) = false := by simp; omega
          have k9 : (kind == 9) = false := by simp; omega
          have HK := hid hk
          clear hk
          go_wp2_with fail
          generalize hW1 : (wr.alloc (.cells #[.int .i64 kind, .string name, .string text, .int .i64 nn, .slice fa fn fc] 46)) = W1 at HAL ⊢
          obtain ⟨g1b, hg1b⟩ : ∃ g, wr.heap.size = g := ⟨_, rfl⟩
          have BX : Hid (Blk W1 g1b 46 #[.int .i64 kind, .string name, .string text, .int .i64 nn, .slice fa fn fc]) := by rw [← hW1, ← hg1b]; exact Blk.new _ _ _
          obtain ⟨K, hK⟩ : ∃ K : Nat → Prop, K = fun k => k < w.heap.size ∨ k = g1b := ⟨_, rfl⟩
          have DK1 : Hid (DK K W1 p S) := by rw [hK]; exact DK.of_D (G := fun k => k = g1b) DX.out (fun k e => ⟨by omega, by rw [e]; exact Blk.lt BX.out⟩) HAL.out
          have HKw : Hid (∀ b, b < w.heap.size → K b) := fun b hb => by rw [hK]; exact .inl hb
          have HKg : Hid (K g1b) := by rw [hK]; exact .inr rfl
          have BEL1 : Hid (Below w.heap.size w W1) := bel.out.trans (HAL.out.mono HBW.out)
          have HI1 : Hid (IntsAt W1 fa fn fates) := ints_later HI.out BEL1.out
          have HFA : Hid (fn ≠ 0 → ∀ b off, fa = some ⟨b, off, none⟩ → K b) := fun hn b off e => HKw.out b (ints_lt HI.out hn b off e)
          obtain ⟨S', hS'⟩ : ∃ q, (doesS S ⟨kind, name, text, nn, fates⟩).1 = q := ⟨_, rfl⟩
          obtain ⟨er, her⟩ : ∃ q, (doesS S ⟨kind, name, text, nn, fates⟩).2 = q := ⟨_, rfl⟩
          have HD : Hid (Calls Try.prog 22 #[.pointer (some ⟨p, 0, none⟩), .agg #[.int .i64 kind, .string name, .string text, .int .i64 nn, .slice fa fn fc]] W1 fun e w' => e = .returned (.int .i64 er) ∧ DK K w' p S' ∧ Only (fun k => ¬ K k) W1 w') := by
            rw [← hS', ← her]
            exact does_K j ⟨kind, name, text, nn, fates⟩ fa fn fc DK1.out IX.out.1 (by unfold big; omega) HWF.out htx HI1.out HFA.out
          have I' : Hid (S'.Fits (j + 1) ∧ S'.room = r ∧ S'.used ≤ r) := by
            obtain ⟨i1, i2, i3⟩ := IX.out
            rw [← hS']
            refine ⟨does_fits _ i1 HWF.out.2.1.2, (does_room _ (fun e => HK.out (.inr e))).trans i2, ?_⟩
            have := does_used ⟨kind, name, text, nn, fates⟩ DX.out.ok (by omega)
            omega
          have HFULL : Hid (er = 11 → kind = 1 ∧ S' = S) := fun e => by
            have := does_full ⟨kind, name, text, nn, fates⟩ (her.trans e)
            rw [hS'] at this; exact this
          have CZ : Hid (∀ v, Hid (DK K v p S) → Calls Try.prog 12 #[.pointer (some ⟨p, 0, none⟩), .string name] v fun e w' => e = .returned (.int .i64 (sizeS S name)) ∧ v = w') := fun v hv => size_K name hv.out
          have q0 : W1.cell? ⟨g1b, 0, none⟩ = some (.int .i64 kind) := Blk.cell BX.out 0
          have q1 : W1.cell? ⟨g1b, 1, none⟩ = some (.string name) := Blk.cell BX.out 1
          have q2 : W1.cell? ⟨g1b, 2, none⟩ = some (.string text) := Blk.cell BX.out 2
          have q3 : W1.cell? ⟨g1b, 3, none⟩ = some (.int .i64 nn) := Blk.cell BX.out 3
          have q4 : W1.cell? ⟨g1b, 4, none⟩ = some (.slice fa fn fc) := Blk.cell BX.out 4
          simp only [hg1b]
          have HG1 := hid hg1b
          clear hW1 hK hS' her hg1b c0 c1 c2 c3 c4
          refine (CZ.out _ DK1).mono ?_; rintro e w' ⟨rfl, rfl⟩
          go_wp2_with fail
          refine HD.out.mono ?_; rintro e w3 ⟨rfl, d3, o3⟩
          have DK3 : Hid (DK K w3 p S') := d3
          have BX3 : Hid (Blk w3 g1b 46 #[.int .i64 kind, .string name, .string text, .int .i64 nn, .slice fa fn fc]) := BX.out.only o3 (fun e => e HKg.out)
          have BEL3 : Hid (Below w.heap.size w w3) := BEL1.out.trans (o3.below (fun k e => Nat.le_of_not_lt (fun h => e (HKw.out k h))) BEL1.out.size)
          have p0 : w3.cell? ⟨g1b, 0, none⟩ = some (.int .i64 kind) := Blk.cell BX3.out 0
          have p1 : w3.cell? ⟨g1b, 1, none⟩ = some (.string name) := Blk.cell BX3.out 1
          clear d3 o3 q0 q1 q2 q3 q4
          have HSUM : Hid (∀ k, k < S'.l.length → sizeS S' (S'.l.getD k ByteArray.empty) = ((S'.ts.getD k ⟨[], 0⟩).bytes.length : Int) ∧ size (S'.ts.take (k + 1)) = size (S'.ts.take k) + (S'.ts.getD k ⟨[], 0⟩).bytes.length) := fun k hk => by
            have hok := DK3.out.ok
            refine ⟨?_, size_take _ _ (by rw [hok.len]; exact hk)⟩
            have : S'.l.getD k ByteArray.empty = S'.l[k] := by simp [List.getD_eq_getElem?_getD, hk]
            rw [this]; exact size_nth hok k hk
          have hL64 := DK3.out.ok.few
          have hU := DK3.out.ok.used
          have hI3 := I'.out.2.2
          obtain ⟨L, hL⟩ : ∃ L, S'.l.length = L := ⟨_, rfl⟩
          have HTK : Hid (∀ k, size (S'.ts.take k) ≤ r) := fun k => by have := size_take_le S'.ts k; omega
          have HALL : Hid (size (S'.ts.take L) ≤ r) := HTK.out L
          rw [hL] at hL64 HSUM
          have HLL := hid hL
          clear hU hI3 hL
          by_cases h11 : er = 11
          all_goals
            first
              | (obtain ⟨rfl, hSS⟩ := HFULL.out h11
                 subst h11
                 have CZ2 : Hid (Calls Try.prog 12 #[.pointer (some ⟨p, 0, none⟩), .string name] w3 fun e w' => e = .returned (.int .i64 (sizeS S name)) ∧ w3 = w') := by rw [← hSS]; exact size_K name DK3.out
                 have HSS := hid hSS
                 clear hSS
                 go_wp2_with (go_at_call 12; refine CZ2.out.mono ?_; rintro e w' ⟨rfl, rfl⟩)
                 go_at_call 32)
              | (have n11 : (er == 11) = false := by simpa using h11
                 go_wp2_with fail
                 go_at_call 32)
            refine (names_K DK3.out).mono ?_; rintro e w4 ⟨v, rfl, hv, b4⟩
            have DK4 : Hid (DK K w4 p S') := DK3.out.below b4
            have BEL4 : Hid (Below w.heap.size w w4) := BEL3.out.trans (b4.mono BEL3.out.size)
            rw [HLL.out] at hv
            obtain ⟨na, nc, rfl, hst⟩ : ∃ na nc, v = .slice na L nc ∧ StrsAt w4 na L S'.l := by
              have h2 := own_strs (l := S'.l) (by rw [HLL.out]; exact hv) (by rw [HLL.out]; omega)
              rw [HLL.out] at h2; exact h2
            have HST := hid hst
            clear hv b4 hst p0 p1
            go_wp2_with fail
            go_loop [10, 12] (fun nv kv => ∃ k : Nat, k ≤ L ∧ kv = .int .i64 k ∧ nv = .int .i64 (size (S'.ts.take k))) (fun _ kv => L - (intOf kv).toNat)
            case atStart => exact ⟨0, by omega, rfl, rfl⟩
            case round =>
              obtain ⟨k, hkL, rfl, rfl⟩ := hrel
              by_cases hk : k < L
              · have ck : (k : Int) < L := by omega
                obtain ⟨nb, noff, rfl, hnb, hnc⟩ := strs_get HST.out hk
                obtain ⟨y, hy⟩ : ∃ y, S'.l.getD k ByteArray.empty = y := ⟨_, rfl⟩
                obtain ⟨m, hm⟩ : ∃ m, (S'.ts.getD k ⟨[], 0⟩).bytes.length = m := ⟨_, rfl⟩
                obtain ⟨z1, z2⟩ := HSUM.out k hk
                have z3 := HTK.out k
                have z4 := HTK.out (k + 1)
                rw [hy] at hnc z1
                rw [hm] at z1 z2
                obtain ⟨q, hq⟩ : ∃ q, size (S'.ts.take k) = q := ⟨_, rfl⟩
                rw [hq] at z2 z3 ⊢
                rw [z2] at z4
                have CZ3 : Hid (Calls Try.prog 12 #[.pointer (some ⟨p, 0, none⟩), .string y] w4 fun e w' => e = .returned (.int .i64 (m : Int)) ∧ w4 = w') := by rw [← z1]; exact size_K y DK4.out
                have Z2 := hid z2
                clear z1 z2 hy hm hq
                go_wp2_with (go_at_call 12; refine CZ3.out.mono ?_; rintro e w' ⟨rfl, rfl⟩)
                go_round
                case rel => exact ⟨k + 1, by omega, by go_num, by rw [Z2.out]; go_num⟩
                case measure => simp [intOf]; omega
              · obtain rfl : k = L := by omega
                have z4 := HALL.out
                obtain ⟨q, hq⟩ : ∃ q, size (S'.ts.take k) = q := ⟨_, rfl⟩
                rw [hq] at z4 ⊢
                clear hq
                have z5 : ¬ ((r : Int) < q) := by omega
                have z6 : ¬ ((64 : Int) < k) := by omega
                go_wp2_with fail
                go_roundw
                case rel => exact ⟨j + 1, S', by omega, by omega, by go_num, DK4.out.to_D HKw.out BEL4.out.size, I', BEL4⟩
                case measure => simp [intOf]; omega
      · have g1 : (4096 : Int) < text.size := by omega
        go_wp2_with fail
        go_ret
        exact ⟨rfl, bel.out.trans (HAL.out.mono HBW.out)⟩
    · have b0 : (⟨#[97]⟩ : ByteArray).size = 1 := rfl
      by_cases hn : j < n
      all_goals
        first
          | (have cj1 : (j : Int) < n := by omega
             have cj2 : ¬ (j : Int) < 80 := by omega)
          | (have cj1 : ¬ (j : Int) < n := by omega)
        go_wp2_with (first
          | (go_at_call 13; refine (off_nil _).mono ?_; rintro e v1 ⟨rfl, rfl⟩)
          | (go_at_call 15; refine (read_nil _ _).mono ?_; rintro e v1 ⟨rfl, rfl⟩)
          | (go_at_call 18; refine (down_nil _).mono ?_; rintro e v1 ⟨rfl, rfl⟩)
          | (go_at_call 10; refine (append_nil _ _ _).mono ?_; rintro e v1 ⟨rfl, rfl⟩)
          | (go_at_call 12; refine (size_nil _ _).mono ?_; rintro e v1 ⟨rfl, rfl⟩)
          | (go_at_call 32; refine (names_nil _).mono ?_; rintro e v1 ⟨rfl, rfl⟩))
        go_ret
        exact ⟨rfl, bel.out⟩
end Go.Proofs.Ythjomknhbfplnaa
