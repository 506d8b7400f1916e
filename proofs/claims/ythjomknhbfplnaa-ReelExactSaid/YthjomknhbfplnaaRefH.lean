/- The reference's disk: Cut. -/
import Derived.Test.YthjomknhbfplnaaRefG
namespace Go.Proofs.Ythjomknhbfplnaa
open Go.RowKit Reel
set_option linter.unusedVariables false

section
variable {w w1 w2 W : World} {u : Nat} {v v1 : Value} {S S1 : St} {x : ByteArray}
set_option maxRecDepth 100000 in
set_option maxHeartbeats 8000000 in
theorem rcut_any (x : ByteArray) (n : Int) (h : RefAt w u v S) (N : Nat) (hf : S.Fits N) (hn : N < big) (hok : (cutS S x n).1.Ok) : Calls Try.prog 50 #[.pointer (some ⟨u, 0, none⟩), .string x, .int .i64 n] w fun e w' => e = .returned (.int .i64 (cutS S x n).2) ∧ RStep w w' u v (cutS S x n).1 := by
  have HFD := hid (rfound_any x h)
  have HS0 : Hid (RStep w w u v S) := ⟨v, h, Only.refl _ _, .inl rfl⟩
  by_cases hd : S.down = true
  · have e1 : cutS S x n = (S, 10) := by unfold cutS; rw [if_pos hd]
    have e2 : foundI S x = (0, 10) := by unfold foundI; rw [if_pos hd]
    rw [e2] at HFD; rw [e1]
    clear h hd e1 e2 hok hf
    go_enter Try.func50, Try.ntmps50
    go_wp2_with (go_at_call 57; refine HFD.out.mono ?_; rintro e w' ⟨rfl, rfl⟩)
    go_ret
    exact ⟨rfl, HS0.out⟩
  cases ht : at_ S x with
  | none =>
    have e1 : cutS S x n = (S, 12) := by unfold cutS; rw [if_neg hd, ht]
    have e2 : foundI S x = (0, 12) := by unfold foundI; rw [if_neg hd, ht]
    rw [e2] at HFD; rw [e1]
    clear h hd ht e1 e2 hok hf
    go_enter Try.func50, Try.ntmps50
    go_wp2_with (go_at_call 57; refine HFD.out.mono ?_; rintro e w' ⟨rfl, rfl⟩)
    go_ret
    exact ⟨rfl, HS0.out⟩
  | some t =>
    have hd' : S.down = false := by simpa using hd
    obtain ⟨hk, -, he⟩ := at_place h.ok ht
    have hfew := ents_few h.ok
    have e2 : foundI S x = ((posOf S.l x : Int), 0) := by unfold foundI; rw [if_neg hd, ht]
    rw [e2] at HFD
    have hsafe := (h.ok.each t (at_mem ht))
    obtain ⟨k, hkk⟩ : ∃ k, posOf S.l x = k := ⟨_, rfl⟩
    obtain ⟨y, hy⟩ : ∃ y, bt t.bytes = y := ⟨_, rfl⟩
    have hlen : t.bytes.length = y.size := by rw [← hy, bt_size]
    obtain ⟨g, c, rfl, q0, q1, q2⟩ := h.reel hk
    simp only [hkk] at HFD hk he q0 q1 q2
    rw [he] at q0 q1 q2
    simp only [hy] at q1
    obtain ⟨c0, -, -, -, -, -⟩ := h.cells
    obtain ⟨W0, hW0⟩ : ∃ W0, w.alloc (.cells #[.string x, .string y, .int .i64 t.safe] 79) = W0 := ⟨_, rfl⟩
    obtain ⟨gx, hgx⟩ : ∃ gx, w.heap.size = gx := ⟨_, rfl⟩
    have BX : Hid (Blk W0 gx 79 #[.string x, .string y, .int .i64 t.safe]) := by rw [← hW0, ← hgx]; exact Blk.new _ _ _
    have HB0 : Hid (Below w.heap.size w W0) := by rw [← hW0]; exact (Below.refl _ _).alloc (Nat.le_refl _) _
    have R0 : Hid (RefAt W0 u (.slice (some ⟨g, 0, none⟩) S.ents.length c) S) := h.later HB0.out
    have HUX : Hid (gx ≠ u ∧ u < W0.heap.size) := ⟨by have := h.lt; omega, R0.out.lt⟩
    have HVX : Hid (g ≠ gx) := by have := own_lt h.row (k := g) rfl; show g ≠ gx; omega
    have ck0 : (0 : Int) ≤ (k : Int) := by omega
    have ck1 : (k : Int) < S.ents.length := by omega
    have HW0 := hid hW0; have HGX := hid hgx
    by_cases hb : n < 0 ∨ (t.bytes.length : Int) < n
    · have e1 : cutS S x n = (S, 1) := by unfold cutS; rw [if_neg hd, ht]; exact if_pos hb
      rw [e1]
      have HF : Hid (RStep w W0 u (.slice (some ⟨g, 0, none⟩) S.ents.length c) S) := ⟨_, R0.out, Only.of_below HB0.out _, .inl rfl⟩
      rw [hlen] at hb
      clear h hd hd' ht e1 e2 hok hkk hy hlen he hf hsafe hW0 hgx HS0
      rcases hb with hb | hb
      · go_enter Try.func50, Try.ntmps50
        go_wp2_with (go_at_call 57; refine HFD.out.mono ?_; rintro e w' ⟨rfl, rfl⟩)
        go_ret
        exact ⟨rfl, by rw [HW0.out]; exact HF.out⟩
      · have hb0 : ¬ n < 0 := by omega
        go_enter Try.func50, Try.ntmps50
        go_wp2_with (go_at_call 57; refine HFD.out.mono ?_; rintro e w' ⟨rfl, rfl⟩)
        go_ret
        exact ⟨rfl, by rw [HW0.out]; exact HF.out⟩
    obtain ⟨m, rfl⟩ : ∃ m : Nat, n = m := ⟨n.toNat, by omega⟩
    have hm1 : m ≤ t.bytes.length := by omega
    have hb0 : ¬ ((m : Int) < 0) := by omega
    have hb1 : ¬ ((y.size : Int) < m) := by omega
    have hb2 : (m : Int) ≤ y.size := by omega
    have hb3 : (0 : Int) ≤ m := by omega
    have HAC := hid (ract_any R0.out hd' N hf hn)
    by_cases ha : (actS S).2 = 0
    · have e1 : cutS S x m = ({ putT (actS S).1 x (cutT t m) with used := S.used - (t.bytes.length - m) }, 0) := by unfold cutS; rw [if_neg hd, ht]; exact (if_neg hb).trans (if_pos ha)
      rw [e1] at hok ⊢
      rw [show decide ((actS S).2 = 10) = false by rw [ha]; rfl] at HAC
      have hents := cut_ents h.ok ht (cutT t m) (S.used - (t.bytes.length - m))
      have HAL : Hid (Alike16 (actS S).1 { putT (actS S).1 x (cutT t m) with used := S.used - (t.bytes.length - m) }) := ⟨rfl, rfl, rfl, rfl, rfl⟩
      obtain ⟨S2, hS2⟩ : ∃ S2 : St, { putT (actS S).1 x (cutT t m) with used := S.used - (t.bytes.length - m) } = S2 := ⟨_, rfl⟩
      rw [hS2] at hok hents HAL ⊢
      rw [hkk] at hents
      have HEN := hid hents; have HOK := hid hok
      have hE1 : (actS S).1.ents = S.ents := act_ents S
      obtain ⟨S1, hS1⟩ : ∃ S1, (actS S).1 = S1 := ⟨_, rfl⟩
      rw [hS1] at HAC HAL hE1
      have hyx : y.extract 0 m = bt (t.bytes.take m) := by rw [← hy]; exact bt_take _ _ hm1
      have HSET : Hid (∀ w1 v1, RefAt w1 u v1 S1 → Calls Try.prog 71 #[v1, .int .i64 k, .agg #[.string x, .string (y.extract 0 m), .int .i64 (min t.safe m : Nat)]] w1 fun en w' => ∃ v' a n c, v' = .slice a n c ∧ en = .returned v' ∧ (∀ p z, w1.cell? p = some z → w'.cell? p = some z) ∧ w'.frozen? ⟨u, 0, none⟩ = false ∧ Hid (RStep w1 (w'.setCell ⟨u, 0, none⟩ v') u v1 S2)) := fun w1 v1 hr => by
        have := rset_post hr (Below.refl _ _) k (x, cutT t m) (by rw [hE1]; exact hk)
        rw [hyx]
        refine this.mono ?_
        rintro en w' ⟨v', a, c, hv, rfl, q1, q2, q3⟩
        exact ⟨v', a, _, c, hv, rfl, q1, q2, q3.out S2 HAL.out (by rw [hE1]; exact HEN.out) HOK.out⟩
      have hf64 : S1.ents.length ≤ 64 := by rw [hE1]; exact hfew
      obtain ⟨sf, hsf⟩ : ∃ sf, t.safe = sf := ⟨_, rfl⟩
      rw [hsf] at BX HW0 HSET q2 hsafe
      have HYE := hid hyx
      clear h hd hd' ht e1 e2 ha hents hok hS2 hkk hE1 hS1 he hk hf hy hlen hyx hsf hgx hW0
      by_cases hsm : m < sf
      · have hmin : (min sf m : Nat) = m := by omega
        rw [hmin] at HSET
        have g1 : (m : Int) < sf := by omega
        clear hmin
        go_enter Try.func50, Try.ntmps50
        go_wp2_with (first
          | (go_at_call 57; refine HFD.out.mono ?_; rintro e w' ⟨rfl, rfl⟩)
          | (go_at_call 72; rw [HW0.out]; refine HAC.out.mono ?_; rintro e w1 ⟨rfl, v1, r1, r2, r3⟩; rw [HGX.out]; have BX1 : Hid (Blk w1 gx 79 #[.string x, .string y, .int .i64 sf]) := (BX.out.only r2 HUX.out.1); have R1 := hid r1; have R2 := hid r2; have R3 := hid r3; obtain ⟨va1, vc1, rfl, -, -⟩ := own_reels r1.row; have x0 : w1.cell? ⟨gx, 0, none⟩ = some (.string x) := Blk.cell BX1.out 0; have x1 : w1.cell? ⟨gx, 1, none⟩ = some (.string y) := Blk.cell BX1.out 1; have x2 : w1.cell? ⟨gx, 2, none⟩ = some (.int .i64 sf) := Blk.cell BX1.out 2; have z1 : w1.frozen? ⟨gx, 1, none⟩ = false := Blk.frozen BX1.out 1; have z2 : w1.frozen? ⟨gx, 2, none⟩ = false := Blk.frozen BX1.out 2; clear r1 r2 r3))
        generalize hW2 : ((w1.setCell ⟨gx, 1, none⟩ (.string (y.extract 0 m))).setCell ⟨gx, 2, none⟩ (.int .i64 m)) = W2
        have O2 : Only (· = gx) w1 W2 := by rw [← hW2]; exact ((Only.refl (· = gx) w1).setCell (p := ⟨gx, 1, none⟩) (.inl rfl) _).setCell (p := ⟨gx, 2, none⟩) (.inl rfl) _
        have hvne : (Value.slice va1 S1.ents.length vc1).ownBlock ≠ some gx := by
          have hgl := Blk.lt BX.out
          rcases R3.out with e | e
          · rw [e]; intro e2; simp [Value.ownBlock] at e2; exact HVX.out e2
          · intro e2; have := e gx e2; omega
        have R4 : Hid (RefAt W2 u (.slice va1 S1.ents.length vc1) S1) := R1.out.apart HUX.out.1 hvne O2
        have BX4 : Hid (Blk W2 gx 79 #[.string x, .string (y.extract 0 m), .int .i64 m]) := by
          have := (Blk.set BX1.out 1 (.string (y.extract 0 m))).set 2 (.int .i64 m)
          rw [← hW2]; unfold Hid; simpa using this
        have O4 : Hid (Only (· = u) w W2) := by
          have h1 : Only (· = u) w w1 := (Only.of_below HB0.out _).then R2.out
          exact h1.trans O2 (fun i e => .inr (by rw [e]; exact Nat.le_of_eq HGX.out))
        obtain ⟨d0, -, -, -, -, -⟩ := R4.out.cells
        have y0 : W2.cell? ⟨gx, 0, none⟩ = some (.string x) := Blk.cell BX4.out 0
        have y1 : W2.cell? ⟨gx, 1, none⟩ = some (.string (y.extract 0 m)) := Blk.cell BX4.out 1
        have y2 : W2.cell? ⟨gx, 2, none⟩ = some (.int .i64 m) := Blk.cell BX4.out 2
        have RV : Hid ((Value.slice va1 S1.ents.length vc1) = .slice (some ⟨g, 0, none⟩) S.ents.length c ∨ ∀ k, (Value.slice va1 S1.ents.length vc1).ownBlock = some k → w.heap.size ≤ k) := by
          rcases R3.out with e | e
          · exact .inl e
          · exact .inr (fun k hk => Nat.le_trans HB0.out.size (e k hk))
        clear O2 hvne hW2 x0 x1 x2 z1 z2
        go_region_with ((first
          | (go_at_call 71; refine (HSET.out _ _ R4.out.drew).mono ?_; rintro e w' ⟨v', va, vn, vc, rfl, rfl, up, fz, hst⟩; have t0 := up ⟨u, 0, none⟩ _ d0; have t1 := up ⟨gx, 0, none⟩ _ y0; have t2 := up ⟨gx, 1, none⟩ _ y1; have t3 := up ⟨gx, 2, none⟩ _ y2; clear up)))
        all_goals
          go_wp2
          go_ret
          exact ⟨rfl, RStep.next R4.out.drew O4.out.drew RV.out hst.out⟩
      · have hmin : (min sf m : Nat) = sf := by omega
        rw [hmin] at HSET
        have g1 : ¬ (m : Int) < sf := by omega
        clear hmin
        go_enter Try.func50, Try.ntmps50
        go_wp2_with (first
          | (go_at_call 57; refine HFD.out.mono ?_; rintro e w' ⟨rfl, rfl⟩)
          | (go_at_call 72; rw [HW0.out]; refine HAC.out.mono ?_; rintro e w1 ⟨rfl, v1, r1, r2, r3⟩; rw [HGX.out]; have BX1 : Hid (Blk w1 gx 79 #[.string x, .string y, .int .i64 sf]) := (BX.out.only r2 HUX.out.1); have R1 := hid r1; have R2 := hid r2; have R3 := hid r3; obtain ⟨va1, vc1, rfl, -, -⟩ := own_reels r1.row; have x0 : w1.cell? ⟨gx, 0, none⟩ = some (.string x) := Blk.cell BX1.out 0; have x1 : w1.cell? ⟨gx, 1, none⟩ = some (.string y) := Blk.cell BX1.out 1; have x2 : w1.cell? ⟨gx, 2, none⟩ = some (.int .i64 sf) := Blk.cell BX1.out 2; have z1 : w1.frozen? ⟨gx, 1, none⟩ = false := Blk.frozen BX1.out 1; have z2 : w1.frozen? ⟨gx, 2, none⟩ = false := Blk.frozen BX1.out 2; clear r1 r2 r3))
        generalize hW2 : (w1.setCell ⟨gx, 1, none⟩ (.string (y.extract 0 m))) = W2
        have O2 : Only (· = gx) w1 W2 := by rw [← hW2]; exact (Only.refl (· = gx) w1).setCell (p := ⟨gx, 1, none⟩) (.inl rfl) _
        have hvne : (Value.slice va1 S1.ents.length vc1).ownBlock ≠ some gx := by
          have hgl := Blk.lt BX.out
          rcases R3.out with e | e
          · rw [e]; intro e2; simp [Value.ownBlock] at e2; exact HVX.out e2
          · intro e2; have := e gx e2; omega
        have R4 : Hid (RefAt W2 u (.slice va1 S1.ents.length vc1) S1) := R1.out.apart HUX.out.1 hvne O2
        have BX4 : Hid (Blk W2 gx 79 #[.string x, .string (y.extract 0 m), .int .i64 sf]) := by
          have := Blk.set BX1.out 1 (.string (y.extract 0 m))
          rw [← hW2]; unfold Hid; simpa using this
        have O4 : Hid (Only (· = u) w W2) := by
          have h1 : Only (· = u) w w1 := (Only.of_below HB0.out _).then R2.out
          exact h1.trans O2 (fun i e => .inr (by rw [e]; exact Nat.le_of_eq HGX.out))
        obtain ⟨d0, -, -, -, -, -⟩ := R4.out.cells
        have y0 : W2.cell? ⟨gx, 0, none⟩ = some (.string x) := Blk.cell BX4.out 0
        have y1 : W2.cell? ⟨gx, 1, none⟩ = some (.string (y.extract 0 m)) := Blk.cell BX4.out 1
        have y2 : W2.cell? ⟨gx, 2, none⟩ = some (.int .i64 sf) := Blk.cell BX4.out 2
        have RV : Hid ((Value.slice va1 S1.ents.length vc1) = .slice (some ⟨g, 0, none⟩) S.ents.length c ∨ ∀ k, (Value.slice va1 S1.ents.length vc1).ownBlock = some k → w.heap.size ≤ k) := by
          rcases R3.out with e | e
          · exact .inl e
          · exact .inr (fun k hk => Nat.le_trans HB0.out.size (e k hk))
        clear O2 hvne hW2 x0 x1 x2 z1 z2
        go_region_with ((first
          | (go_at_call 71; refine (HSET.out _ _ R4.out.drew).mono ?_; rintro e w' ⟨v', va, vn, vc, rfl, rfl, up, fz, hst⟩; have t0 := up ⟨u, 0, none⟩ _ d0; have t1 := up ⟨gx, 0, none⟩ _ y0; have t2 := up ⟨gx, 1, none⟩ _ y1; have t3 := up ⟨gx, 2, none⟩ _ y2; clear up)))
        all_goals
          go_wp2
          go_ret
          exact ⟨rfl, RStep.next R4.out.drew O4.out.drew RV.out hst.out⟩
    · have ha10 : (actS S).2 = 10 := by rcases act_err S with e | e; exact absurd e ha; exact e
      have e1 : cutS S x m = actS S := by unfold cutS; rw [if_neg hd, ht]; exact (if_neg hb).trans (if_neg ha)
      rw [e1, ha10]
      rw [show decide ((actS S).2 = 10) = true from decide_eq_true ha10] at HAC
      have HF : Hid (∀ w1, RStep W0 w1 u (.slice (some ⟨g, 0, none⟩) S.ents.length c) (actS S).1 → RStep w w1 u (.slice (some ⟨g, 0, none⟩) S.ents.length c) (actS S).1) := fun w1 hs => RStep.next R0.out (Only.of_below HB0.out _) (.inl rfl) hs
      clear h hd hd' ht e1 e2 ha ha10 hok hkk he hf hb hy hlen hsafe hgx hW0
      go_enter Try.func50, Try.ntmps50
      go_wp2_with (first
        | (go_at_call 57; refine HFD.out.mono ?_; rintro e w' ⟨rfl, rfl⟩)
        | (go_at_call 72; rw [HW0.out]; refine HAC.out.mono ?_; rintro e w1 ⟨rfl, hst⟩; have HST := hid (HF.out _ hst); clear hst))
      go_ret
      exact ⟨rfl, HST.out⟩
end
end Go.Proofs.Ythjomknhbfplnaa
