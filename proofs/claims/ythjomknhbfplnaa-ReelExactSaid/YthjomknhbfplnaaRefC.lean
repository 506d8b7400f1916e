/- The reference's disk: New, Read, Names, Off, act, Arm, Room. -/
import Derived.Test.YthjomknhbfplnaaRefB
import Derived.Test.YthjomknhbfplnaaStrs
namespace Go.Proofs.Ythjomknhbfplnaa
open Go.RowKit Reel
set_option linter.unusedVariables false

section
variable {w : World} {u : Nat} {v : Value} {S : St} {x : ByteArray}
theorem rread_any (x : ByteArray) (h : RefAt w u v S) : Calls Try.prog 30 #[.pointer (some ⟨u, 0, none⟩), .string x] w fun e w' => e = .returned (.tuple #[.string ⟨(readS S x).1.toArray⟩, .int .i64 (readS S x).2]) ∧ w = w' := by
  have HFD := hid (rfound_any x h)
  by_cases hd : S.down = true
  · have e1 : readS S x = ([], 10) := by unfold readS; rw [if_pos hd]
    have e2 : foundI S x = (0, 10) := by unfold foundI; rw [if_pos hd]
    rw [e2] at HFD; rw [e1]
    clear h hd e1 e2
    go_enter Try.func30, Try.ntmps30
    go_wp2_with (go_at_call 57; refine HFD.out.mono ?_; rintro e w' ⟨rfl, rfl⟩)
    go_ret2
    exact ⟨rfl, rfl⟩
  cases ht : at_ S x with
  | none =>
    have e1 : readS S x = ([], 12) := by unfold readS; rw [if_neg hd, ht]
    have e2 : foundI S x = (0, 12) := by unfold foundI; rw [if_neg hd, ht]
    rw [e2] at HFD; rw [e1]
    clear h hd ht e1 e2
    go_enter Try.func30, Try.ntmps30
    go_wp2_with (go_at_call 57; refine HFD.out.mono ?_; rintro e w' ⟨rfl, rfl⟩)
    go_ret2
    exact ⟨rfl, rfl⟩
  | some t =>
    obtain ⟨c0, -, -, -, -, -⟩ := h.cells
    obtain ⟨hk, -, he⟩ := at_place h.ok ht
    have hfew := ents_few h.ok
    have e1 : readS S x = (t.bytes, 0) := by unfold readS; rw [if_neg hd, ht]
    have e2 : foundI S x = ((posOf S.l x : Int), 0) := by unfold foundI; rw [if_neg hd, ht]
    rw [e2] at HFD; rw [e1]
    obtain ⟨a, c, rfl, hc, hR⟩ := own_reels h.row
    obtain ⟨g, rfl, hc0, hc1, hc2⟩ := hR.get hk
    obtain ⟨q, hq⟩ : ∃ q, posOf S.l x = q := ⟨_, rfl⟩
    simp only [hq] at HFD hk he hc0 hc1 hc2
    rw [he] at hc1
    obtain ⟨y, hy⟩ : ∃ y, bt t.bytes = y := ⟨_, rfl⟩
    show Calls _ _ _ _ fun e w' => e = .returned (.tuple #[.string (bt t.bytes), .int .i64 0]) ∧ _
    rw [hy] at hc1 ⊢
    obtain ⟨N, hN⟩ : ∃ N, S.ents.length = N := ⟨_, rfl⟩
    rw [hN] at c0 hk hfew hc
    have b0 : (0 : Int) ≤ (q : Int) := by omega
    have b1 : (q : Int) < N := by omega
    clear h hd ht e1 e2 he hc0 hc2 hR hq hy hN
    go_enter Try.func30, Try.ntmps30
    go_wp2_with (go_at_call 57; refine HFD.out.mono ?_; rintro e w' ⟨rfl, rfl⟩)
    go_ret2
    exact ⟨rfl, rfl⟩
set_option maxHeartbeats 1000000 in
theorem rnames_any (h : RefAt w u v S) : Calls Try.prog 34 #[.pointer (some ⟨u, 0, none⟩)] w fun e w' => ∃ v, e = .returned v ∧ w'.ownsRow w.heap.size 9 1 v S.l.length (svals S.l) ∧ Below w.heap.size w w' := by
  obtain ⟨i0, hi0, hz0, hz1, hz2⟩ := info_parts Try.infoS
  have hfew := ents_few h.ok
  obtain ⟨a, c, rfl, hc, hR⟩ := own_reels h.row
  have HNM : Hid (S.ents.map (·.1) = S.l) := ents_fst h.ok
  have HH := hid h; have HR := hid hR
  have hfew2 : S.ents.length ≤ 64 := hfew
  clear h hR hc
  obtain ⟨L, hL⟩ : ∃ L, S.ents = L := ⟨_, rfl⟩
  rw [hL] at HNM HH HR hfew
  have HLL := hid hL
  clear hL hfew2
  go_enter Try.func34, Try.ntmps34
  go_wp2
  go_loopw [3, 4] (fun ov iv wr => ∃ (k : Nat), k ≤ L.length ∧ iv = .int .i64 k ∧ Hid (wr.ownsRow w.heap.size 9 1 ov ((L.take k).map (·.1)).length (svals ((L.take k).map (·.1)))) ∧ Hid (Below w.heap.size w wr)) (fun _ iv _ => L.length - (intOf iv).toNat)
  case atStart => exact ⟨0, by omega, rfl, World.ownsRow_made _ _ 0 (Nat.le_refl _) (by unfold maxLen; omega) rfl, (Below.refl _ _).alloc (Nat.le_refl _) _⟩
  case round =>
    obtain ⟨k, hk, rfl, HO, bel⟩ := hrel
    have HHW := hid (HH.out.later bel.out)
    obtain ⟨d0, -, -, -, -, -⟩ := HHW.out.cells
    have hsz : w.heap.size ≤ wr.heap.size := bel.out.size
    by_cases hlt : k < L.length
    · have ck : (k : Int) < L.length := by omega
      have hRW : ReelsAt wr a L.length L := by
        obtain ⟨h1, h2⟩ := HR.out
        refine ⟨h1, h2.imp id ?_⟩
        rintro ⟨g, ha, hcs⟩
        refine ⟨g, ha, fun j hj => ?_⟩
        obtain ⟨q0, q1, q2⟩ := hcs j hj
        have up : ∀ {p : Addr} {z : Value}, w.cell? p = some z → wr.cell? p = some z := fun hz => (World.cell?_of_block (bel.out.block _ (World.block_lt_of_cell? _ _ hz))).trans hz
        exact ⟨up q0, up q1, up q2⟩
      obtain ⟨g, rfl, hc0, hc1, hc2⟩ := hRW.get hlt
      obtain ⟨y, hy⟩ : ∃ y, L[k].1 = y := ⟨_, rfl⟩
      rw [hy] at hc0
      have HT : Hid ((L.take (k + 1)).map (·.1) = (L.take k).map (·.1) ++ [y]) := by
        show (L.take (k + 1)).map (·.1) = (L.take k).map (·.1) ++ [y]
        rw [List.take_succ_eq_append_getElem hlt, List.map_append, ← hy]; rfl
      have hown := HO.out
      have hlen : ((L.take k).map (·.1)).length = k := by simp; omega
      clear hRW hc1 hc2 hy HO
      go_wp2_with (at_builtin; refine wpList_append_own _ rfl (.tmp 19) (.tmp 28) 22 rfl w.heap.size 9 i0 (.string ⟨#[]⟩) 1 16 Try.underlying22 hi0 hz0 hz1 hz2 rfl (by decide) _ _ _ rfl (hown.alloc _) _ 1 1 [.string y] rfl rfl (cellNew1 _ _ _) (one_bytes rfl) (by rw [hlen]; unfold maxLen; omega) (by rw [hlen]; omega) (by simp; omega) ?_; intro v' w3 hown' hgrow _)
      go_roundw
      case rel => exact ⟨k + 1, by omega, by go_num, by rw [HT.out]; exact own_string_snoc hown', below_grown1 bel.out hown _ hsz hgrow⟩
      case measure => simp [intOf]; omega
    · have ck : ¬ (k : Int) < L.length := by omega
      have HE : Hid ((L.take k).map (·.1) = S.l) := by rw [List.take_of_length_le (by omega)]; exact HNM.out
      have HF : Hid (wr.ownsRow w.heap.size 9 1 u3 S.l.length (svals S.l)) := by have := HO.out; rw [HE.out] at this; exact this
      go_wp2_with fail
      go_ret
      exact ⟨_, rfl, HF.out, bel.out⟩
theorem rroom_any (n : Int) (w : World) : Calls Try.prog 47 #[.int .i64 n] w fun e w' => e = .returned (.int .i64 (roomOf n : Int)) ∧ w = w' := by
  by_cases h1 : n < 0
  · have e : roomOf n = 0 := by unfold roomOf; rw [if_pos h1]
    rw [e]; clear e
    go_enter Try.func47, Try.ntmps47
    go_wp2
    go_ret
    exact ⟨rfl, rfl⟩
  · by_cases h2 : 67108864 < n
    · have e : roomOf n = 67108864 := by unfold roomOf; rw [if_neg h1, if_pos h2]
      rw [e]; clear e
      go_enter Try.func47, Try.ntmps47
      go_wp2
      go_ret
      exact ⟨rfl, rfl⟩
    · have e : ((roomOf n : Nat) : Int) = n := by unfold roomOf; rw [if_neg h1, if_neg h2]; omega
      rw [e]; clear e
      go_enter Try.func47, Try.ntmps47
      go_wp2
      go_ret
      exact ⟨rfl, rfl⟩
theorem rnew_any (n : Int) (w : World) : Calls Try.prog 21 #[.int .i64 n] w fun e w' => e = .returned (.pointer (some ⟨w.heap.size, 0, none⟩)) ∧ RefAt w' w.heap.size (.slice none 0 0) (Reel.new n) ∧ Below w.heap.size w w' := by
  go_enter Try.func21, Try.ntmps21
  go_wp2_with (go_at_call 47; refine (rroom_any _ _).mono ?_; rintro e w' ⟨rfl, rfl⟩)
  go_ret
  exact ⟨rfl, ⟨Blk.new _ _ _, World.ownsRow_nil _ _ _ _, new_ok n⟩, (Below.refl _ _).alloc (Nat.le_refl _) _⟩
set_option maxHeartbeats 1000000 in
theorem roff_any (h : RefAt w u v S) (n : Nat) (hf : S.Fits n) (hn : n ≤ big) : Calls Try.prog 53 #[.pointer (some ⟨u, 0, none⟩)] w fun e w' => e = .returned (.tuple #[]) ∧ RStep w w' u v (offS S) := by
  obtain ⟨c0, c1, c2, c3, c4, c5⟩ := h.cells
  cases hd : S.down
  · rw [hd] at c2
    have f2 := Blk.frozen h.blk 2
    have f4 := Blk.frozen h.blk 4
    have f5 := Blk.frozen h.blk 5
    have hl := hf.2.1
    unfold big at hn
    have HFIN : Hid (RStep w (((w.setCell ⟨u, 2, none⟩ (.bool true)).setCell ⟨u, 4, none⟩ (.int .i64 ((S.life : Int) + 1))).setCell ⟨u, 5, none⟩ (.int .i64 0)) u v (offS S)) := by
      have e : offS S = { S with down := true, armed := 0, life := S.life + 1 } := by unfold offS; rw [if_neg (by simp [hd])]
      have hok := off_ok h.ok
      rw [e] at hok ⊢
      refine h.put ((((Only.refl (· = u) w).setCell (p := ⟨u, 2, none⟩) (.inl rfl) _).setCell (p := ⟨u, 4, none⟩) (.inl rfl) _).setCell (p := ⟨u, 5, none⟩) (.inl rfl) _) ?_ rfl hok
      have := ((Blk.set h.blk 2 (.bool true)).set 4 (.int .i64 ((S.life : Int) + 1))).set 5 (.int .i64 0)
      simpa using this
    clear h hd c0 c1 c3
    go_enter Try.func53, Try.ntmps53
    go_wp2
    go_end0
    exact ⟨rfl, HFIN.out⟩
  · rw [hd] at c2
    have e : offS S = S := by unfold offS; rw [if_pos hd]
    rw [e]
    have HS : Hid (RStep w w u v S) := ⟨v, h, Only.refl _ _, .inl rfl⟩
    clear h hd e c0 c1 c3 c4 c5
    go_enter Try.func53, Try.ntmps53
    go_wp2
    go_end0
    exact ⟨rfl, HS.out⟩
set_option maxHeartbeats 2000000 in
theorem ract_any (h : RefAt w u v S) (hd : S.down = false) (n : Nat) (hf : S.Fits n) (hn : n < big) : Calls Try.prog 72 #[.pointer (some ⟨u, 0, none⟩)] w fun e w' => e = .returned (.bool (decide ((actS S).2 = 10))) ∧ RStep w w' u v (actS S).1 := by
  obtain ⟨c0, c1, c2, c3, c4, c5⟩ := h.cells
  have f3 := Blk.frozen h.blk 3
  have f5 := Blk.frozen h.blk 5
  obtain ⟨hf1, hf2, hf3⟩ := hf
  have hn' := hn
  unfold big at hn
  have hok := act_ok h.ok
  by_cases h0 : S.armed = 0
  · have e : actS S = ({ S with acts := S.acts + 1 }, 0) := by unfold actS; rw [if_pos h0]
    rw [e] at hok ⊢
    have HFIN : Hid (RStep w (w.setCell ⟨u, 3, none⟩ (.int .i64 ((S.acts : Int) + 1))) u v { S with acts := S.acts + 1 }) := by
      refine h.put ((Only.refl (· = u) w).setCell (p := ⟨u, 3, none⟩) (.inl rfl) _) ?_ rfl hok
      have := Blk.set h.blk 3 (.int .i64 ((S.acts : Int) + 1))
      simpa using this
    rw [h0] at c5
    clear h hd c0 c1 c2 c4 hok e hn'
    go_enter Try.func72, Try.ntmps72
    go_wp2
    go_ret
    exact ⟨rfl, HFIN.out⟩
  · have HST : Hid (RStep w ((w.setCell ⟨u, 3, none⟩ (.int .i64 ((S.acts : Int) + 1))).setCell ⟨u, 5, none⟩ (.int .i64 ((S.armed : Int) - 1))) u v { S with acts := S.acts + 1, armed := S.armed - 1 }) := by
      refine h.put (((Only.refl (· = u) w).setCell (p := ⟨u, 3, none⟩) (.inl rfl) _).setCell (p := ⟨u, 5, none⟩) (.inl rfl) _) ?_ rfl (h.ok.with_ rfl rfl rfl h.ok.room)
      have := (Blk.set h.blk 3 (.int .i64 ((S.acts : Int) + 1))).set 5 (.int .i64 ((S.armed : Int) - 1))
      rw [show ((S.armed - 1 : Nat) : Int) = (S.armed : Int) - 1 by omega]
      simpa using this
    by_cases h1 : S.armed = 1
    · have e : actS S = ({ S with acts := S.acts + 1, down := true, armed := 0, life := S.life + 1 }, 10) := by unfold actS; rw [if_neg h0, if_pos h1]
      rw [e] at hok ⊢
      have HEQ : Hid (offS { S with acts := S.acts + 1, armed := S.armed - 1 } = { S with acts := S.acts + 1, down := true, armed := 0, life := S.life + 1 }) := by
        show offS { S with acts := S.acts + 1, armed := S.armed - 1 } = _
        unfold offS; rw [if_neg (by simp [hd])]
      rw [h1] at c5 HST HEQ
      have HOF : Hid (∀ w', RStep w w' u v { S with acts := S.acts + 1, armed := 1 - 1 } → Calls Try.prog 53 #[.pointer (some ⟨u, 0, none⟩)] w' fun e w'' => e = .returned (.tuple #[]) ∧ RStep w w'' u v { S with acts := S.acts + 1, down := true, armed := 0, life := S.life + 1 }) := fun w' ⟨v', r1, r2, r3⟩ => by
        refine (roff_any r1 (n + 1) ⟨by show S.acts + 1 ≤ _; omega, by show S.life ≤ _; omega, by show 1 - 1 ≤ _; omega⟩ (by unfold big; omega)).mono ?_
        rintro e w'' ⟨rfl, v'', q1, q2, q3⟩
        rw [HEQ.out] at q1
        refine ⟨rfl, v'', q1, r2.then q2, ?_⟩
        rcases q3 with rfl | q3
        · exact r3
        · exact .inr (fun k hk => Nat.le_trans r2.size (q3 k hk))
      have HST' := hid (HOF.out _ HST.out)
      clear h hd c0 c1 c2 c4 hok e hn' HEQ h0 h1 HST
      go_enter Try.func72, Try.ntmps72
      go_wp2_with (go_at_call 53; refine HST'.out.mono ?_; rintro e w' ⟨rfl, hst⟩; have HF := hid hst; clear hst)
      go_ret
      exact ⟨rfl, HF.out⟩
    · have e : actS S = ({ S with acts := S.acts + 1, armed := S.armed - 1 }, 0) := by unfold actS; rw [if_neg h0, if_neg h1]
      rw [e]
      obtain ⟨m, hm⟩ : ∃ m, S.armed = m := ⟨_, rfl⟩
      rw [hm] at c5 h0 h1 hf3
      have b1 : ((m : Int) == 0) = false := by rw [beq_eq_false_iff_ne]; omega
      have b2 : ((m : Int) - 1 == 0) = false := by rw [beq_eq_false_iff_ne]; omega
      have b3 : (0 : Int) ≤ (m : Int) - 1 := by omega
      simp only [hm] at HST ⊢
      clear h hd c0 c1 c2 c4 hok e hn' h0 h1 hm
      go_enter Try.func72, Try.ntmps72
      go_wp2
      go_ret
      exact ⟨rfl, HST.out⟩
set_option maxHeartbeats 1000000 in
theorem rarm_any (h : RefAt w u v S) (n : Int) (hn : n ≤ 9223372036854775807) : Calls Try.prog 54 #[.pointer (some ⟨u, 0, none⟩), .int .i64 n] w fun e w' => e = .returned (.tuple #[]) ∧ RStep w w' u v (armS S n) := by
  obtain ⟨c0, c1, c2, c3, c4, c5⟩ := h.cells
  have f5 := Blk.frozen h.blk 5
  have HST : ∀ m : Int, (n.toNat : Int) = m → RStep w (w.setCell ⟨u, 5, none⟩ (.int .i64 m)) u v (armS S n) := fun m hm => by
    refine h.put ((Only.refl (· = u) w).setCell (p := ⟨u, 5, none⟩) (.inl rfl) _) ?_ rfl (arm_ok h.ok n)
    have := Blk.set h.blk 5 (.int .i64 m)
    unfold armS
    simp only [hm]
    simpa using this
  by_cases h0 : n < 0
  · have HF := hid (HST 0 (by omega))
    clear h c0 c1 c2 c3 c4 HST
    go_enter Try.func54, Try.ntmps54
    go_wp2
    go_end0
    exact ⟨rfl, HF.out⟩
  · have HF := hid (HST n (by omega))
    clear h c0 c1 c2 c3 c4 HST
    go_enter Try.func54, Try.ntmps54
    go_wp2
    go_end0
    exact ⟨rfl, HF.out⟩
theorem rroomc_any (h : RefAt w u v S) (n : Int) : Calls Try.prog 55 #[.pointer (some ⟨u, 0, none⟩), .int .i64 n] w fun e w' => e = .returned (.tuple #[]) ∧ RStep w w' u v (roomS S n) := by
  obtain ⟨c0, c1, c2, c3, c4, c5⟩ := h.cells
  have f1 := Blk.frozen h.blk 1
  have HST : Hid (RStep w (w.setCell ⟨u, 1, none⟩ (.int .i64 (roomOf n : Int))) u v (roomS S n)) := by
    refine h.put ((Only.refl (· = u) w).setCell (p := ⟨u, 1, none⟩) (.inl rfl) _) ?_ rfl (room_ok h.ok n)
    have := Blk.set h.blk 1 (.int .i64 (roomOf n : Int))
    unfold roomS
    simpa using this
  clear h c0 c2 c3 c4 c5
  go_enter Try.func55, Try.ntmps55
  go_wp2_with (go_at_call 47; refine (rroom_any _ _).mono ?_; rintro e w' ⟨rfl, rfl⟩)
  go_end0
  exact ⟨rfl, HST.out⟩
end
end Go.Proofs.Ythjomknhbfplnaa
