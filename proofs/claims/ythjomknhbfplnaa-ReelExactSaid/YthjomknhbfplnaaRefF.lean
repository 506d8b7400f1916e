/- The reference's disk: Sync, Cut, Drop. -/
import Derived.Test.YthjomknhbfplnaaRefE
namespace Go.Proofs.Ythjomknhbfplnaa
open Go.RowKit Reel
set_option linter.unusedVariables false

/-- the numbers of a state -/
def Alike16 (S S' : St) : Prop := S'.room = S.room ∧ S'.down = S.down ∧ S'.acts = S.acts ∧ S'.life = S.life ∧ S'.armed = S.armed
section
variable {w w1 w2 W : World} {u : Nat} {v v1 : Value} {S S1 : St} {x : ByteArray}
theorem RStep.trans (h1 : RStep w w1 u v S) (h2 : ∀ v1, RefAt w1 u v1 S → RStep w1 w2 u v1 S1) : RStep w w2 u v S1 := by
  obtain ⟨v1, a1, a2, a3⟩ := h1
  obtain ⟨v2, b1, b2, b3⟩ := h2 v1 a1
  refine ⟨v2, b1, a2.then b2, ?_⟩
  rcases b3 with rfl | b3
  · exact a3
  · exact .inr (fun k hk => Nat.le_trans a2.size (b3 k hk))
theorem RStep.next (h1 : RefAt w1 u v1 S) (ho : Only (· = u) w w1) (hv : v1 = v ∨ ∀ k, v1.ownBlock = some k → w.heap.size ≤ k) (h2 : RStep w1 w2 u v1 S1) : RStep w w2 u v S1 := by
  obtain ⟨v2, b1, b2, b3⟩ := h2
  refine ⟨v2, b1, ho.then b2, ?_⟩
  rcases b3 with rfl | b3
  · exact hv
  · exact .inr (fun k hk => Nat.le_trans ho.size (b3 k hk))
/-- the row is another one -/
theorem RefAt.store (h : RefAt w u v S) {v' : Value} {L : List Ent} {S' : St} (hb : Below w.heap.size w w2) (hr : w2.ownsRow w.heap.size 79 3 v' L.length (rvals L)) (ha : Alike16 S S') (hL : S'.ents = L) (hok : S'.Ok) : RStep w (w2.setCell ⟨u, 0, none⟩ v') u v S' := by
  have hbk : Blk w2 u 77 #[v, .int .i64 S.room, .bool S.down, .int .i64 S.acts, .int .i64 S.life, .int .i64 S.armed] := (hb.block u h.lt).trans h.blk
  obtain ⟨a1, a2, a3, a4, a5⟩ := ha
  refine ⟨v', ⟨?_, ?_, hok⟩, (Only.of_below hb _).then ((Only.refl (· = u) w2).setCell (p := ⟨u, 0, none⟩) (.inl rfl) _), .inr (fun k hk => (hr.lt k hk).1)⟩
  · have := hbk.set 0 v'
    rw [a1, a2, a3, a4, a5]; simpa using this
  · rw [hL]
    have hne : ∀ k, v'.ownBlock = some k → k ≠ u := fun k hk e => by
      have := (hr.lt k hk).1; have := h.lt; omega
    have ho : Only (· = u) w2 (w2.setCell ⟨u, 0, none⟩ v') := (Only.refl (· = u) w2).setCell (p := ⟨u, 0, none⟩) (.inl rfl) _
    exact own_base (own_only hr ho (fun k hk e => hne k hk e)) (Nat.zero_le _)
/-- what set, with, without leave, and the store behind them -/
def RowPost (w W : World) (u : Nat) (v : Value) (S : St) (L : List Ent) (en : Ending) (w' : World) : Prop :=
  ∃ v' a c, v' = .slice a L.length c ∧ en = .returned v' ∧ (∀ p z, W.cell? p = some z → w'.cell? p = some z) ∧ w'.frozen? ⟨u, 0, none⟩ = false ∧ Hid (∀ S', Alike16 S S' → S'.ents = L → S'.Ok → RStep w (w'.setCell ⟨u, 0, none⟩ v') u v S')
theorem RefAt.rowPost (h : RefAt w u v S) (hb : Below w.heap.size w W) {L : List Ent} {en : Ending} {w' : World} (hp : ∃ v', en = .returned v' ∧ w'.ownsRow W.heap.size 79 3 v' L.length (rvals L) ∧ Below W.heap.size W w') : RowPost w W u v S L en w' := by
  obtain ⟨v', rfl, hr, hb2⟩ := hp
  have hb3 : Below w.heap.size w w' := hb.trans (hb2.mono hb.size)
  have hbk : Blk w' u 77 _ := (hb3.block u h.lt).trans h.blk
  obtain ⟨a, c, hv, -⟩ := own_slice hr
  exact ⟨v', a, c, hv, rfl, fun p z hz => (World.cell?_of_block (hb2.block _ (World.block_lt_of_cell? _ _ hz))).trans hz, hbk.frozen 0, fun S' h1 h2 h3 => h.store hb3 (own_base hr hb.size) h1 h2 h3⟩
theorem rset_post (h : RefAt w u v S) (hb : Below w.heap.size w W) (k : Nat) (e : Ent) (hk : k < S.ents.length) :
    Calls Try.prog 71 #[v, .int .i64 k, .agg #[.string e.1, .string (bt e.2.bytes), .int .i64 e.2.safe]] W (RowPost w W u v S (S.ents.set k e)) :=
  (rset_any S.ents k e v W (own_below h.row hb) (ents_few h.ok) hk).mono fun en w' hp => h.rowPost hb hp
theorem act_ents (S : St) : (actS S).1.ents = S.ents := by obtain ⟨h1, h2, _⟩ := act_l S; unfold St.ents; rw [h1, h2]
/-- the cells of a reel of the disk -/
theorem RefAt.reel (h : RefAt w u v S) {k : Nat} (hk : k < S.ents.length) : ∃ g c, v = .slice (some ⟨g, 0, none⟩) S.ents.length c ∧ w.cell? ⟨g, k * 3, none⟩ = some (.string S.ents[k].1) ∧ w.cell? ⟨g, k * 3 + 1, none⟩ = some (.string (bt S.ents[k].2.bytes)) ∧ w.cell? ⟨g, k * 3 + 2, none⟩ = some (.int .i64 S.ents[k].2.safe) := by
  obtain ⟨a, c, rfl, hc, hR⟩ := own_reels h.row
  obtain ⟨g, rfl, q⟩ := hR.get hk
  exact ⟨g, c, rfl, q⟩
set_option maxRecDepth 100000 in
set_option maxHeartbeats 4000000 in
theorem rsync_any (x : ByteArray) (h : RefAt w u v S) (n : Nat) (hf : S.Fits n) (hn : n < big) (hok : (syncS S x).1.Ok) : Calls Try.prog 49 #[.pointer (some ⟨u, 0, none⟩), .string x] w fun e w' => e = .returned (.int .i64 (syncS S x).2) ∧ RStep w w' u v (syncS S x).1 := by
  have HFD := hid (rfound_any x h)
  have HS0 : Hid (RStep w w u v S) := ⟨v, h, Only.refl _ _, .inl rfl⟩
  by_cases hd : S.down = true
  · have e1 : syncS S x = (S, 10) := by unfold syncS; rw [if_pos hd]
    have e2 : foundI S x = (0, 10) := by unfold foundI; rw [if_pos hd]
    rw [e2] at HFD; rw [e1]
    clear h hd e1 e2 hok hf
    go_enter Try.func49, Try.ntmps49
    go_wp2_with (go_at_call 57; refine HFD.out.mono ?_; rintro e w' ⟨rfl, rfl⟩)
    go_ret
    exact ⟨rfl, HS0.out⟩
  cases ht : at_ S x with
  | none =>
    have e1 : syncS S x = (S, 12) := by unfold syncS; rw [if_neg hd, ht]
    have e2 : foundI S x = (0, 12) := by unfold foundI; rw [if_neg hd, ht]
    rw [e2] at HFD; rw [e1]
    clear h hd ht e1 e2 hok hf
    go_enter Try.func49, Try.ntmps49
    go_wp2_with (go_at_call 57; refine HFD.out.mono ?_; rintro e w' ⟨rfl, rfl⟩)
    go_ret
    exact ⟨rfl, HS0.out⟩
  | some t =>
    have hd' : S.down = false := by simpa using hd
    obtain ⟨hk, -, he⟩ := at_place h.ok ht
    have hfew := ents_few h.ok
    have HAC := hid (ract_any h hd' n hf hn)
    have e2 : foundI S x = ((posOf S.l x : Int), 0) := by unfold foundI; rw [if_neg hd, ht]
    rw [e2] at HFD
    by_cases ha : (actS S).2 = 0
    · have e1 : syncS S x = (putT (actS S).1 x ⟨t.bytes, t.bytes.length⟩, 0) := by unfold syncS; rw [if_neg hd, ht]; exact if_pos ha
      rw [e1] at hok ⊢
      have ha10 : decide ((actS S).2 = 10) = false := by rw [ha]; rfl
      rw [ha10] at HAC
      obtain ⟨hx, -⟩ := at_some ht
      have hents : (putT (actS S).1 x ⟨t.bytes, t.bytes.length⟩).ents = S.ents.set (posOf S.l x) (x, ⟨t.bytes, t.bytes.length⟩) := by
        obtain ⟨l1, l2, _⟩ := act_l S
        rw [← set_put (act_ok h.ok) (by rw [l1]; exact hx), act_ents, l1]
      obtain ⟨S2, hS2⟩ : ∃ S2, putT (actS S).1 x ⟨t.bytes, t.bytes.length⟩ = S2 := ⟨_, rfl⟩
      have HAL : Hid (Alike16 (actS S).1 S2) := by rw [← hS2]; exact ⟨rfl, rfl, rfl, rfl, rfl⟩
      rw [hS2] at hok hents ⊢
      obtain ⟨k, hkk⟩ : ∃ k, posOf S.l x = k := ⟨_, rfl⟩
      obtain ⟨y, hy⟩ : ∃ y, bt t.bytes = y := ⟨_, rfl⟩
      have hlen : t.bytes.length = y.size := by rw [← hy, bt_size]
      simp only [hkk] at HFD hk he hents
      have HEN := hid hents; have HOK := hid hok
      have hE1 : (actS S).1.ents = S.ents := act_ents S
      obtain ⟨S1, hS1⟩ : ∃ S1, (actS S).1 = S1 := ⟨_, rfl⟩
      rw [hS1] at HAC HAL hE1
      have hk1 : k < S1.ents.length := by rw [hE1]; exact hk
      have HSET : Hid (∀ w1 v1 W, RefAt w1 u v1 S1 → Below w1.heap.size w1 W → Calls Try.prog 71 #[v1, .int .i64 k, .agg #[.string x, .string y, .int .i64 y.size]] W fun en w' => ∃ v' a n c, v' = .slice a n c ∧ en = .returned v' ∧ (∀ p z, W.cell? p = some z → w'.cell? p = some z) ∧ w'.frozen? ⟨u, 0, none⟩ = false ∧ Hid (RStep w1 (w'.setCell ⟨u, 0, none⟩ v') u v1 S2)) := fun w1 v1 W hr hb => by
        have := rset_post hr hb k (x, ⟨t.bytes, t.bytes.length⟩) hk1
        simp only [hy, hlen] at this
        refine this.mono ?_
        rintro en w' ⟨v', a, c, hv, rfl, q1, q2, q3⟩
        exact ⟨v', a, _, c, hv, rfl, q1, q2, q3.out S2 HAL.out (by rw [hE1, ← hlen]; exact HEN.out) HOK.out⟩
      have HREEL : Hid (∀ w1 v1, RefAt w1 u v1 S1 → ∃ g c, v1 = .slice (some ⟨g, 0, none⟩) S1.ents.length c ∧ w1.cell? ⟨g, k * 3, none⟩ = some (.string x) ∧ w1.cell? ⟨g, k * 3 + 1, none⟩ = some (.string y) ∧ w1.cell? ⟨g, k * 3 + 2, none⟩ = some (.int .i64 t.safe)) := fun w1 v1 hr => by
        obtain ⟨g, c, hv, q0, q1, q2⟩ := hr.reel hk1
        have he1 : S1.ents[k] = (x, t) := by simp only [hE1]; exact he
        rw [he1] at q0 q1 q2
        rw [hy] at q1
        exact ⟨g, c, hv, q0, q1, q2⟩
      have ck0 : (0 : Int) ≤ (k : Int) := by omega
      have ck1 : (k : Int) < S1.ents.length := by omega
      have hf64 : S1.ents.length ≤ 64 := by rw [hE1]; exact hfew
      clear h hd hd' ht e1 e2 ha ha10 hx hents hok hS2 hkk hy hlen hE1 hS1 he hk hfew hf
      go_enter Try.func49, Try.ntmps49
      go_wp2_with (first
        | (go_at_call 57; refine HFD.out.mono ?_; rintro e w' ⟨rfl, rfl⟩)
        | (go_at_call 72; refine HAC.out.mono ?_; rintro e w1 ⟨rfl, v1, r1, r2, r3⟩; obtain ⟨g, c, rfl, q0, q1, q2⟩ := HREEL.out w1 v1 r1; have R1 := hid r1; have R2 := hid r2; have R3 := hid r3; obtain ⟨c0, -, -, -, -, -⟩ := r1.cells; clear r1 r2 r3))
      have GX : Hid (Blk (w1.alloc (.cells #[.string x, .string y, .int .i64 y.size] 79)) w1.heap.size 79 #[.string x, .string y, .int .i64 y.size]) := Blk.new _ _ _
      have hW0 : (w1.alloc (.cells #[.string x, .string y, .int .i64 y.size] 79)).cell? ⟨u, 0, none⟩ = some (.slice (some ⟨g, 0, none⟩) S1.ents.length c) := (World.cell?_of_block (Below.heap_alloc _ _ _ R1.out.lt)).trans c0
      have HW0 := hid hW0

      go_region_with ((first
        | (go_at_call 71; refine (HSET.out w1 _ _ R1.out ?_).mono ?_; (exact ((Below.refl _ _).alloc (Nat.le_refl _) _).drew); rintro e w' ⟨v', va, vn, vc, rfl, rfl, up, fz, hst⟩; have t0 := up ⟨u, 0, none⟩ _ HW0.out; have t1 := up ⟨w1.heap.size, 0, none⟩ _ (Blk.cell GX.out 0); have t2 := up ⟨w1.heap.size, 1, none⟩ _ (Blk.cell GX.out 1); have t3 := up ⟨w1.heap.size, 2, none⟩ _ (Blk.cell GX.out 2); clear up)))
      all_goals
        go_wp2
        go_ret
        exact ⟨rfl, RStep.next R1.out R2.out R3.out hst.out⟩
    · have ha10 : (actS S).2 = 10 := by rcases act_err S with e | e; exact absurd e ha; exact e
      have e1 : syncS S x = actS S := by unfold syncS; rw [if_neg hd, ht]; exact if_neg ha
      rw [e1, ha10]
      rw [show decide ((actS S).2 = 10) = true from decide_eq_true ha10] at HAC
      obtain ⟨k, hkk⟩ : ∃ k, posOf S.l x = k := ⟨_, rfl⟩
      simp only [hkk] at HFD hk
      clear h hd hd' ht e1 e2 ha ha10 hok hkk he hf
      go_enter Try.func49, Try.ntmps49
      go_wp2_with (first
        | (go_at_call 57; refine HFD.out.mono ?_; rintro e w' ⟨rfl, rfl⟩)
        | (go_at_call 72; refine HAC.out.mono ?_; rintro e w1 ⟨rfl, hst⟩; have HST := hid hst; clear hst))
      go_ret
      exact ⟨rfl, HST.out⟩
end
end Go.Proofs.Ythjomknhbfplnaa
