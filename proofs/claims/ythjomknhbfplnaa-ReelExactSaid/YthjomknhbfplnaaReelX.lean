/- The walk of ReelExact. -/
import Derived.Test.YthjomknhbfplnaaRefM
import Derived.Test.YthjomknhbfplnaaReelFullW
import Derived.Deep.RegionHeld3
import Derived.Deep.DrawnRows
namespace Go.Proofs.Ythjomknhbfplnaa
open Go.RowKit Reel
set_option linter.unusedVariables false
attribute [local go_sem ↓] Go.wp_at_zero Go.wp_at_succ

/-- the same texts -/
theorem texts_same (l : List ByteArray) (a b : Option Addr) (n c c' : Nat) (w : World) (ha : StrsAt w a n l) (hb : StrsAt w b n l) (hn : n ≤ 64) :
    Calls Try.prog 33 #[.slice a n c, .slice b n c'] w fun e w' => e = .returned (.bool true) ∧ ∃ q, w' = w.drewN q := by
  have HA := hid ha; have HB := hid hb
  clear ha hb
  go_enter Try.func33, Try.ntmps33
  go_wp2
  go_loopw [5] (fun iv wr => ∃ k q : Nat, k ≤ n ∧ iv = .int .i64 k ∧ wr = w.drewN q) (fun iv _ => n - (intOf iv).toNat)
  case atStart => exact ⟨0, 0, by omega, rfl, rfl⟩
  case round =>
    obtain ⟨k, q, hk, rfl, rfl⟩ := hrel
    by_cases hlt : k < n
    · have ck : (k : Int) < n := by omega
      have ck0 : (0 : Int) ≤ (k : Int) := by omega
      obtain ⟨ab, aoff, rfl, -, hac⟩ := strs_get HA.out hlt
      obtain ⟨bb, boff, rfl, -, hbc⟩ := strs_get HB.out hlt
      obtain ⟨x, hx⟩ : ∃ x, l.getD k ByteArray.empty = x := ⟨_, rfl⟩
      rw [hx] at hac hbc
      have hac : (w.drewN q).cell? ⟨ab, aoff + k, none⟩ = some (.string x) := hac
      have hbc : (w.drewN q).cell? ⟨bb, boff + k, none⟩ = some (.string x) := hbc
      clear hx
      go_wp2
      go_quiet (fail)
      go_wp2
      go_roundw
      case rel => exact ⟨k + 1, _, by omega, by go_num, rfl⟩
      case measure => simp [intOf]; omega
    · have ck : ¬ (k : Int) < n := by omega
      go_wp2_with fail
      go_ret
      exact ⟨rfl, q, rfl⟩

/-- what the program's disk leaves alone -/
def KK (B u : Nat) (v : Value) (G : Nat → Prop) : Nat → Prop := fun k => k < B ∨ k = u ∨ v.ownBlock = some k ∨ G k
section
variable {B u p : Nat} {v v' : Value} {G : Nat → Prop} {S S' : St} {w w' : World}
theorem DK.more {K : Nat → Prop} (h : DK K w p S) (hb : Below w.heap.size w w') (hG : ∀ k, G k → w.heap.size ≤ k ∧ k < w'.heap.size) : DK (fun k => K k ∨ G k) w' p S := by
  obtain ⟨F, h1, h2, h3⟩ := h
  refine ⟨F, h1.below hb, fun k hk e => ?_, fun k hk => ?_⟩
  · rcases e with e | e
    · exact h2 k hk e
    · have := h1.1 k hk; have := hG k e; omega
  · rcases hk with e | e
    · exact Nat.lt_of_lt_of_le (h3 k e) hb.size
    · exact (hG k e).2
theorem DK.less {K K' : Nat → Prop} (h : DK K w p S) (hK : ∀ k, K' k → K k) : DK K' w p S := by
  obtain ⟨F, h1, h2, h3⟩ := h
  exact ⟨F, h1, fun k hk e => h2 k hk (hK k e), fun k hk => h3 k (hK k hk)⟩
/-- the reference's disk took a step -/
theorem DK.step (h : DK (KK B u v G) w p S) (ho : Only (· = u) w w') (hv : v' = v ∨ ∀ k, v'.ownBlock = some k → w.heap.size ≤ k) (hr : RefAt w' u v' S') : DK (KK B u v' G) w' p S := by
  obtain ⟨F, h1, h2, h3⟩ := h
  refine ⟨F, h1.only ho (fun k hk e => h2 k hk (.inr (.inl e))), fun k hk e => ?_, fun k hk => ?_⟩
  · rcases e with e | e | e | e
    · exact h2 k hk (.inl e)
    · exact h2 k hk (.inr (.inl e))
    · rcases hv with rfl | hv
      · exact h2 k hk (.inr (.inr (.inl e)))
      · have := hv k e; have := h1.1 k hk; omega
    · exact h2 k hk (.inr (.inr (.inr e)))
  · rcases hk with e | e | e | e
    · exact Nat.lt_of_lt_of_le (h3 k (.inl e)) ho.size
    · rw [e]; exact hr.lt
    · exact own_lt hr.row e
    · exact Nat.lt_of_lt_of_le (h3 k (.inr (.inr (.inr e)))) ho.size
theorem RefAt.only {K : Nat → Prop} (h : RefAt w u v S) (ho : Only (fun k => ¬ K k) w w') (hu : K u) (hv : ∀ k, v.ownBlock = some k → K k) : RefAt w' u v S :=
  ⟨h.blk.only ho (fun e => e hu), own_only h.row ho (fun k hk e => e (hv k hk)), h.ok⟩
theorem RStep.of_val (h : RStep w w' u v S') : ∃ v', RefAt w' u v' S' ∧ Only (· = u) w w' ∧ (v' = v ∨ ∀ k, v'.ownBlock = some k → w.heap.size ≤ k) := h
end
set_option maxRecDepth 100000 in
set_option maxHeartbeats 8000000 in
theorem walk_ReelExact (room : Int) (a : Option Addr) (n c : Nat) (w : World) (hr1 : -9223372036854775808 ≤ room) (hr2 : room ≤ 9223372036854775807) (hs : ActsAt w a n) :
    Calls Try.prog 6 #[.int .i64 room, .slice a n c] w fun e w' => e = .returned (.bool true) ∧ Below w.heap.size w w' := by
  have HS := hid hs
  have hn63 := hs.1
  clear hs
  obtain ⟨B, hB⟩ : ∃ B, w.heap.size = B := ⟨_, rfl⟩
  have HBW := hid hB
  rw [hB]; clear hB
  go_enter Try.func6, Try.ntmps6
  go_wp2_with fail
  refine (awake_any _).mono ?_; rintro e w1 ⟨rfl, b1⟩
  rw [HBW.out] at b1
  go_wp2_with fail
  refine (new_D (B := B) room (by have := b1.size; rw [HBW.out] at this; exact this)).mono ?_; rintro e w2 ⟨p, rfl, d, b2⟩
  have hBw1 : B ≤ w1.heap.size := by have := b1.size; rw [HBW.out] at this; exact this
  have b2 := b1.trans (b2.mono hBw1)
  have D2 := hid d; have B2 := hid b2
  have hBw2 : B ≤ w2.heap.size := by have := b2.size; rw [HBW.out] at this; exact this
  clear d b1 b2
  go_wp2_with fail
  refine (rnew_any room w2).mono ?_; rintro e w3 ⟨rfl, r3, b3⟩
  obtain ⟨u, hu⟩ : ∃ u, w2.heap.size = u := ⟨_, rfl⟩
  have R3 : Hid (RefAt w3 u (.slice none 0 0) (Reel.new room)) := by rw [← hu]; exact r3
  have D3 : Hid (DK (KK B u (.slice none 0 0) (fun _ => False)) w3 p (Reel.new room)) := by
    have hul := R3.out.lt
    have := DK.of_D (G := fun k => k = u) D2.out (w' := w3) (fun k e => ⟨by omega, by rw [e]; exact hul⟩) b3
    refine this.less (fun k hk => ?_)
    rcases hk with e | e | e | e
    · exact .inl e
    · exact .inr e
    · simp [Value.ownBlock] at e
    · exact e.elim
  have B3 : Hid (Below B w w3) := B2.out.trans (b3.mono hBw2)
  have hBu : B ≤ u := by omega
  rw [hu]
  have I0 : Hid ((Reel.new room).Fits 0) := ⟨Nat.le_refl _, Nat.le_refl _, Nat.zero_le _⟩
  clear r3 b3 hBw1 hBw2 hu D2 B2
  go_wp2_with fail
  go_loopw [7] (fun iv wr => ∃ (j : Nat) (S : St) (v : Value), j ≤ 80 ∧ j ≤ n ∧ iv = .int .i64 j ∧ Hid (DK (KK B u v (fun _ => False)) wr p S) ∧ Hid (RefAt wr u v S) ∧ Hid (S.Fits j) ∧ Hid (Below B w wr) ∧ Hid (∀ k, v.ownBlock = some k → B ≤ k)) (fun i _ => 80 - (intOf i).toNat)
  case atStart => exact ⟨0, _, _, by omega, by omega, rfl, D3, R3, I0, B3, fun k e => by simp [Value.ownBlock] at e⟩
  case round =>
    clear D3 R3 I0 B3
    obtain ⟨j, S, v, hj80, hjn, rfl, DX, RX, IX, bel, HV⟩ := hrel
    by_cases hgo : j < n ∧ j < 80
    · obtain ⟨hj, hj8⟩ := hgo
      have cj1 : (j : Int) < n := by omega
      have cj2 : (j : Int) < 80 := by omega
      obtain ⟨ab, aoff, x, fa, fn, fc, rfl, hab, hac⟩ := acts_get HS.out hj
      have hab' : ab < B := by rw [← HBW.out]; exact hab
      have lift : ∀ o z, w.cell? ⟨ab, o, none⟩ = some z → wr.cell? ⟨ab, o, none⟩ = some z := fun o z h => (World.cell?_of_block (bel.out.block ab hab')).trans h
      obtain ⟨kind, name, text, nn, fates⟩ := x
      have c0 : wr.cell? ⟨ab, aoff + j * 5, none⟩ = some (.int .i64 kind) := lift _ _ hac.kind
      have c1 : wr.cell? ⟨ab, aoff + j * 5 + 1, none⟩ = some (.string name) := lift _ _ hac.name
      have c2 : wr.cell? ⟨ab, aoff + j * 5 + 2, none⟩ = some (.string text) := lift _ _ hac.text
      have c3 : wr.cell? ⟨ab, aoff + j * 5 + 3, none⟩ = some (.int .i64 nn) := lift _ _ hac.n
      have c4 : wr.cell? ⟨ab, aoff + j * 5 + 4, none⟩ = some (.slice fa fn fc) := lift _ _ hac.fates
      have hints : IntsAt w fa fn fates := hac.ints
      have hwf := hac.wf
      have HI := hid hints
      have HWF := hid hwf
      have hBW : B ≤ wr.heap.size := by have := bel.out.size; rw [HBW.out] at this; exact this
      have HBR := hid hBW
      clear hac lift hints hwf hBW
      have hal : Below wr.heap.size wr (wr.alloc (.cells #[.int .i64 kind, .string name, .string text, .int .i64 nn, .slice fa fn fc] 46)) := (Below.refl _ _).alloc (Nat.le_refl _) _
      have HAL := hid hal
      clear hal
      by_cases htx : text.size ≤ 4096
      · have g1 : ¬ (4096 : Int) < text.size := by omega
        go_wp2_with fail
        generalize hW1 : (wr.alloc (.cells #[.int .i64 kind, .string name, .string text, .int .i64 nn, .slice fa fn fc] 46)) = W1 at HAL ⊢
        obtain ⟨gx, hgx⟩ : ∃ g, wr.heap.size = g := ⟨_, rfl⟩
        have BX : Hid (Blk W1 gx 46 #[.int .i64 kind, .string name, .string text, .int .i64 nn, .slice fa fn fc]) := by rw [← hW1, ← hgx]; exact Blk.new _ _ _
        have D1 : Hid (DK (KK B u v (· = gx)) W1 p S) := by
          have := DK.more (G := (· = gx)) DX.out HAL.out (fun k e => ⟨by omega, by rw [e]; exact Blk.lt BX.out⟩)
          refine this.less (fun k hk => ?_)
          rcases hk with e | e | e | e
          · exact .inl (.inl e)
          · exact .inl (.inr (.inl e))
          · exact .inl (.inr (.inr (.inl e)))
          · exact .inr e
        have R1 : Hid (RefAt W1 u v S) := RX.out.later HAL.out
        have BEL1 : Hid (Below B w W1) := bel.out.trans (HAL.out.mono HBR.out)
        have HGU : Hid (gx ≠ u) := by have := RX.out.lt; show gx ≠ u; omega
        have hfb : fn ≠ 0 → ∀ b off, fa = some ⟨b, off, none⟩ → b < B := fun hn b off e => by rw [← HBW.out]; exact ints_lt HI.out hn b off e
        have HFB := hid hfb
        clear hfb
        obtain ⟨S', hS'⟩ : ∃ q, (doesS S ⟨kind, name, text, nn, fates⟩).1 = q := ⟨_, rfl⟩
        obtain ⟨er, her⟩ : ∃ q, (doesS S ⟨kind, name, text, nn, fates⟩).2 = q := ⟨_, rfl⟩
        have HINT : Hid (∀ W, Below B w W → IntsAt W fa fn fates) := fun W hb => by
          obtain ⟨i1, i2, i3, i4⟩ := HI.out
          refine ⟨i1, i2, i3, i4.imp id ?_⟩
          rintro ⟨b, off, ha, hc⟩
          refine ⟨b, off, ha, fun q hq => (World.cell?_of_block (hb.block b ?_)).trans (hc q hq)⟩
          exact HFB.out (by omega) b off ha
        have CD : Hid (Calls Try.prog 22 #[.pointer (some ⟨p, 0, none⟩), .agg #[.int .i64 kind, .string name, .string text, .int .i64 nn, .slice fa fn fc]] W1.drew fun e w' => e = .returned (.int .i64 er) ∧ Hid (DK (KK B u v (· = gx)) w' p S') ∧ Only (fun k => ¬ KK B u v (· = gx) k) W1 w') := by
          rw [← hS', ← her]
          refine (does_K j ⟨kind, name, text, nn, fates⟩ fa fn fc (D1.out.only ((Only.refl NoF W1).drew) (fun _ e => e.elim)) IX.out (by unfold big; omega) HWF.out htx (HINT.out _ BEL1.out.drew) (fun hn b off e => .inl (HFB.out hn b off e))).mono ?_
          rintro e w' ⟨h1, h2, h3⟩
          exact ⟨h1, h2, (Only.refl (fun k => ¬ KK B u v (· = gx) k) W1).drew.then h3⟩
        have CS : Hid (∀ W, Hid (DK (KK B u v (· = gx)) W p S') → Only (fun k => ¬ KK B u v (· = gx) k) W1 W → Calls Try.prog 23 #[.pointer (some ⟨u, 0, none⟩), .agg #[.int .i64 kind, .string name, .string text, .int .i64 nn, .slice fa fn fc]] W fun e w' => e = .returned (.int .i64 er) ∧ ∃ v', Hid (DK (KK B u v' (· = gx)) w' p S') ∧ Hid (RefAt w' u v' S') ∧ Hid (∀ k, v'.ownBlock = some k → B ≤ k) ∧ Hid (Below B w w') ∧ Hid (Blk w' gx 46 #[.int .i64 kind, .string name, .string text, .int .i64 nn, .slice fa fn fc])) := fun W hD hO => by
          have hR : RefAt W u v S := R1.out.only (K := KK B u v (· = gx)) hO (.inr (.inl rfl)) (fun k hk => .inr (.inr (.inl hk)))
          have hBW1 : B ≤ W1.heap.size := Nat.le_trans HBR.out HAL.out.size
          have hbW : Below B w W := BEL1.out.trans (hO.below (fun k e => Nat.le_of_not_lt (fun h => e (.inl h))) hBW1)
          have hBx : Blk W gx 46 #[.int .i64 kind, .string name, .string text, .int .i64 nn, .slice fa fn fc] := BX.out.only hO (fun e => e (.inr (.inr (.inr rfl))))
          rw [← her]
          refine (rsays_any j ⟨kind, name, text, nn, fates⟩ fa fn fc hR IX.out (by unfold big; omega) HWF.out htx (HINT.out W hbW) (fun hn b off e => by have := HFB.out hn b off e; omega) (by rw [hS']; exact hD.out.ok)).mono ?_
          rintro e w' ⟨h1, v', h2, h3, h4⟩
          rw [hS'] at h2
          have hBWs : B ≤ W.heap.size := Nat.le_trans hBW1 hO.size
          refine ⟨h1, v', hD.out.step h3 h4 h2, h2, fun k hk => ?_, hbW.trans (h3.below (fun k e => by rw [e]; exact hBu) hBWs), hBx.only h3 HGU.out⟩
          rcases h4 with rfl | h4
          · exact HV.out k hk
          · exact Nat.le_trans hBWs (h4 k hk)
        have I' : Hid (S'.Fits (j + 1)) := by rw [← hS']; exact does_fits _ IX.out HWF.out.2.1.2
        have p0 : W1.cell? ⟨gx, 0, none⟩ = some (.int .i64 kind) := Blk.cell BX.out 0
        have p1 : W1.cell? ⟨gx, 1, none⟩ = some (.string name) := Blk.cell BX.out 1
        have p2 : W1.cell? ⟨gx, 2, none⟩ = some (.string text) := Blk.cell BX.out 2
        have p3 : W1.cell? ⟨gx, 3, none⟩ = some (.int .i64 nn) := Blk.cell BX.out 3
        have p4 : W1.cell? ⟨gx, 4, none⟩ = some (.slice fa fn fc) := Blk.cell BX.out 4
        have HCELL : Hid (∀ W, Only (fun k => ¬ KK B u v (· = gx) k) W1 W → W.cell? ⟨gx, 0, none⟩ = some (.int .i64 kind) ∧ W.cell? ⟨gx, 1, none⟩ = some (.string name) ∧ W.cell? ⟨gx, 2, none⟩ = some (.string text) ∧ W.cell? ⟨gx, 3, none⟩ = some (.int .i64 nn) ∧ W.cell? ⟨gx, 4, none⟩ = some (.slice fa fn fc)) := fun W hO => by
          have hBx : Blk W gx 46 #[.int .i64 kind, .string name, .string text, .int .i64 nn, .slice fa fn fc] := BX.out.only hO (fun e => e (.inr (.inr (.inr rfl))))
          exact ⟨Blk.cell hBx 0, Blk.cell hBx 1, Blk.cell hBx 2, Blk.cell hBx 3, Blk.cell hBx 4⟩
        have HBC : Hid (∀ W, Hid (Blk W gx 46 #[.int .i64 kind, .string name, .string text, .int .i64 nn, .slice fa fn fc]) → W.cell? ⟨gx, 0, none⟩ = some (.int .i64 kind) ∧ W.cell? ⟨gx, 1, none⟩ = some (.string name) ∧ W.cell? ⟨gx, 2, none⟩ = some (.string text) ∧ W.cell? ⟨gx, 3, none⟩ = some (.int .i64 nn) ∧ W.cell? ⟨gx, 4, none⟩ = some (.slice fa fn fc)) := fun W hBx => ⟨Blk.cell hBx.out 0, Blk.cell hBx.out 1, Blk.cell hBx.out 2, Blk.cell hBx.out 3, Blk.cell hBx.out 4⟩
        rw [hgx]
        have hs0 := HCELL.out W1 (Only.refl _ _)
        clear hW1 hS' her hgx c0 c1 c2 c3 c4 D1 R1 BX DX RX bel IX g1
        go_region_held3 (fun W => W.cell? ⟨gx, 0, none⟩ = some (.int .i64 kind) ∧ W.cell? ⟨gx, 1, none⟩ = some (.string name) ∧ W.cell? ⟨gx, 2, none⟩ = some (.string text) ∧ W.cell? ⟨gx, 3, none⟩ = some (.int .i64 nn) ∧ W.cell? ⟨gx, 4, none⟩ = some (.slice fa fn fc)) ((first | exact hs0 | exact hs1 | exact hs2 | go_keep)) ((first
          | (go_at_call 22; refine CD.out.mono ?_; rintro e v1 ⟨rfl, d1, o1⟩; have hs1 := HCELL.out v1 o1)
          | (go_at_call 23; refine (CS.out _ d1 o1).mono ?_; rintro e v2 ⟨rfl, v', D2, R2, V2, B2, BX2⟩; have hs2 := HBC.out v2 BX2)
          | (go_at_call 18; refine (down_K D2.out).mono ?_; rintro e v3 ⟨rfl, rfl⟩)
          | (go_at_call 24; refine (rdown_any R2.out).mono ?_; rintro e v3 ⟨rfl, rfl⟩)
          | (go_at_call 25; refine (acts_K D2.out).mono ?_; rintro e v3 ⟨rfl, rfl⟩)
          | (go_at_call 26; refine (racts_any R2.out).mono ?_; rintro e v3 ⟨rfl, rfl⟩)
          | (go_at_call 27; refine (life_K D2.out).mono ?_; rintro e v3 ⟨rfl, rfl⟩)
          | (go_at_call 28; refine (rlife_any R2.out).mono ?_; rintro e v3 ⟨rfl, rfl⟩)
          | (go_at_call 12; refine (size_K name D2.out).mono ?_; rintro e v3 ⟨rfl, rfl⟩)
          | (go_at_call 29; refine (rsize_any name R2.out).mono ?_; rintro e v3 ⟨rfl, nq, rfl⟩)))
        generalize hw4 : v2.drewN nq = w4
        have D4 : Hid (DK (KK B u v' (· = gx)) w4 p S') := by rw [← hw4]; exact D2.out.only ((Only.refl NoF v2).drewN nq) (fun _ e => e.elim)
        have R4 : Hid (RefAt w4 u v' S') := by rw [← hw4]; exact R2.out.drewN nq
        have B4 : Hid (Below B w w4) := by rw [← hw4]; exact below_drewN B2.out nq
        have BX4 : Hid (Blk w4 gx 46 #[.int .i64 kind, .string name, .string text, .int .i64 nn, .slice fa fn fc]) := by rw [← hw4]; exact BX2
        obtain ⟨t0, t1, t2, t3, t4⟩ := HBC.out w4 BX4
        clear hw4 hs0 hs1 hs2 p0 p1 p2 p3 p4 d1 o1
        go_wp2_with (first
          | (go_at_call 15; refine (read_K name D4.out).mono ?_; rintro e v3 ⟨rfl, rfl⟩)
          | (go_at_call 30; refine (rread_any name R4.out).mono ?_; rintro e v3 ⟨rfl, rfl⟩))
        go_roundw
        case rel => exact ⟨j + 1, S', v', by omega, by omega, by go_num, D4.out.less (fun k hk => by rcases hk with e | e | e | e; exact .inl e; exact .inr (.inl e); exact .inr (.inr (.inl e)); exact e.elim), R4, I', B4, V2⟩
        case measure => simp [intOf]; omega
      · have g1 : (4096 : Int) < text.size := by omega
        go_wp2_with fail
        go_ret
        exact ⟨rfl, bel.out.trans (HAL.out.mono HBR.out)⟩
    · obtain ⟨S1, hS1⟩ : ∃ q, q = onS S [] := ⟨_, rfl⟩
      have CO : Hid (Calls Try.prog 14 #[.pointer (some ⟨p, 0, none⟩), .slice none 0 0] wr fun e w' => e = .returned (.tuple #[]) ∧ Hid (DK (KK B u v (fun _ => False)) w' p S1) ∧ Only (fun k => ¬ KK B u v (fun _ => False) k) wr w') := by
        rw [hS1]
        exact on_K none 0 0 [] DX.out (ints_nil wr) (fun h => absurd rfl h)
      have CS : Hid (∀ W, Hid (DK (KK B u v (fun _ => False)) W p S1) → Only (fun k => ¬ KK B u v (fun _ => False) k) wr W → Calls Try.prog 31 #[.pointer (some ⟨u, 0, none⟩), .slice none 0 0] W fun e w' => e = .returned (.tuple #[]) ∧ ∃ v', Hid (DK (KK B u v' (fun _ => False)) w' p S1) ∧ Hid (RefAt w' u v' S1) ∧ Hid (Below B w w')) := fun W hD hO => by
        have hR : RefAt W u v S := RX.out.only (K := KK B u v (fun _ => False)) hO (.inr (.inl rfl)) (fun k hk => .inr (.inr (.inl hk)))
        have hBwr : B ≤ wr.heap.size := by have := bel.out.size; rw [HBW.out] at this; exact this
        have hbW : Below B w W := bel.out.trans (hO.below (fun k e => Nat.le_of_not_lt (fun h => e (.inl h))) hBwr)
        refine (ron_any none 0 0 [] hR (ints_nil W) (fun h => absurd rfl h)).mono ?_
        rintro e w' ⟨h1, v', h2, h3, h4⟩
        rw [← hS1] at h2
        exact ⟨h1, v', hD.out.step h3 h4 h2, h2, hbW.trans (h3.below (fun k e => by rw [e]; exact hBu) (Nat.le_trans hBwr hO.size))⟩
      clear hS1 DX RX IX HV
      by_cases hn : j < n
      all_goals
        first
          | (have cj1 : (j : Int) < n := by omega
             have cj2 : ¬ (j : Int) < 80 := by omega)
          | (have cj1 : ¬ (j : Int) < n := by omega)
        go_wp2_with (first
          | (go_at_call 14; refine CO.out.mono ?_; rintro e v1 ⟨rfl, d1, o1⟩)
          | (go_at_call 31; refine (CS.out _ d1 o1).mono ?_; rintro e v2 ⟨rfl, v', D2, R2, B2⟩))
        go_at_call 32
        refine (names_K D2.out).mono ?_; rintro e w4 ⟨nv, rfl, hnv, b4⟩
        have D4 : Hid (DK (KK B u v' (fun _ => False)) w4 p S1) := D2.out.below b4
        have R4 : Hid (RefAt w4 u v' S1) := R2.out.later b4
        have hBv2 : B ≤ v2.heap.size := by have := B2.out.size; rw [HBW.out] at this; exact this
        have B4 : Hid (Below B w w4) := B2.out.trans (b4.mono hBv2)
        have hL64 := D4.out.ok.few
        obtain ⟨na, nc, rfl, hst⟩ := own_strs hnv (by omega)
        have HST := hid hst
        clear hnv b4 hst d1 o1
        go_wp2_with fail
        go_at_call 34
        refine (rnames_any R4.out).mono ?_; rintro e w5 ⟨mv, rfl, hmv, b5⟩
        have D5 : Hid (DK (KK B u v' (fun _ => False)) w5 p S1) := D4.out.below b5
        have R5 : Hid (RefAt w5 u v' S1) := R4.out.later b5
        have hBv4 : B ≤ w4.heap.size := by have := B4.out.size; rw [HBW.out] at this; exact this
        have B5 : Hid (Below B w w5) := B4.out.trans (b5.mono hBv4)
        obtain ⟨ma, mc, rfl, hmt⟩ := own_strs hmv (by omega)
        have HST5 := hid (HST.out.later b5)
        have HMT := hid hmt
        clear hmv b5 hmt HST
        go_wp2_with fail
        go_at_call 33
        refine (texts_same S1.l na ma _ _ _ w5 HST5.out HMT.out hL64).mono ?_; rintro e w6 ⟨rfl, q6, rfl⟩
        generalize hw6 : w5.drewN q6 = w6
        have D6 : Hid (DK (KK B u v' (fun _ => False)) w6 p S1) := by rw [← hw6]; exact D5.out.only ((Only.refl NoF w5).drewN q6) (fun _ e => e.elim)
        have R6 : Hid (RefAt w6 u v' S1) := by rw [← hw6]; exact R5.out.drewN q6
        have B6 : Hid (Below B w w6) := by rw [← hw6]; exact below_drewN B5.out q6
        have S6 : Hid (StrsAt w6 na S1.l.length S1.l) := by rw [← hw6]; exact HST5.out.later (below_drewN (Below.refl _ _) q6)
        clear hw6 D2 R2 B2 D4 R4 B4 D5 R5 B5 HST5 HMT
        obtain ⟨L, hL⟩ : ∃ L, S1.l.length = L := ⟨_, rfl⟩
        rw [hL] at S6 hL64 ⊢
        clear hL
        go_wp2_with fail
        go_loop [14] (fun iv => ∃ k : Nat, k ≤ L ∧ iv = .int .i64 k) (fun iv => L - (intOf iv).toNat)
        case atStart => exact ⟨0, by omega, rfl⟩
        case round =>
          obtain ⟨k, hkL, rfl⟩ := hrel
          by_cases hk : k < L
          · have ck : (k : Int) < L := by omega
            obtain ⟨nb, noff, rfl, -, hnc⟩ := strs_get S6.out hk
            obtain ⟨y, hy⟩ : ∃ y, S1.l.getD k ByteArray.empty = y := ⟨_, rfl⟩
            rw [hy] at hnc
            clear hy
            go_wp2_with (first
              | (go_at_call 15; refine (read_K y D6.out).mono ?_; rintro e v3 ⟨rfl, rfl⟩)
              | (go_at_call 30; refine (rread_any y R6.out).mono ?_; rintro e v3 ⟨rfl, rfl⟩))
            go_round
            case rel => exact ⟨k + 1, by omega, by go_num⟩
            case measure => simp [intOf]; omega
          · have ck : ¬ (k : Int) < L := by omega
            go_wp2_with fail
            go_ret
            exact ⟨rfl, B6.out⟩
end Go.Proofs.Ythjomknhbfplnaa
