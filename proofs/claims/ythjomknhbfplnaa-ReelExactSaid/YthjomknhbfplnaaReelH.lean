/- The reel: New, and the small calls in the words of the whole disk. -/
import Derived.Test.YthjomknhbfplnaaReelG
namespace Go.Proofs.Ythjomknhbfplnaa
open Go.RowKit Reel
set_option linter.unusedVariables false

theorem shnew_any (w : World) : Calls Try.prog 35 #[] w fun e w' => e = .returned (.pointer (some ⟨w.heap.size, 0, none⟩)) ∧ w' = w.alloc (.cells #[.slice none 0 0, .slice none 0 0] 85) := by
  go_enter Try.func35, Try.ntmps35
  go_wp2
  go_ret
  exact ⟨rfl, rfl⟩
set_option maxHeartbeats 2000000 in
theorem new_any (n : Int) (w : World) : Calls Try.prog 9 #[.int .i64 n] w fun e w' => ∃ p, e = .returned (.pointer (some ⟨p, 0, none⟩)) ∧ w.heap.size ≤ p ∧ DiskAt w' p (grow NoF w w') (new n) ∧ Below w.heap.size w w' := by
  have HFIN : Hid (∀ W, W = (w.alloc (.cells #[.slice none 0 0, .slice none 0 0] 85)).alloc (.cells #[.pointer (some ⟨w.heap.size, 0, none⟩), .int .i64 0, .int .i64 0, .bool false, .int .i64 0, .int .i64 0, .int .i64 0] 57) →
      Calls Try.prog 36 #[.pointer (some ⟨w.heap.size + 1, 0, none⟩), .int .i64 n] W fun e w' => e = .returned (.tuple #[]) ∧ DiskAt w' (w.heap.size + 1) (grow NoF w w') (new n) ∧ Below w.heap.size w w') := by
    rintro W rfl
    have hz : (w.alloc (.cells #[.slice none 0 0, .slice none 0 0] 85)).heap.size = w.heap.size + 1 := by simp
    have B1 : Blk (w.alloc (.cells #[.slice none 0 0, .slice none 0 0] 85)) w.heap.size 85 #[.slice none 0 0, .slice none 0 0] := Blk.new w _ _
    have B2 := Blk.new (w.alloc (.cells #[.slice none 0 0, .slice none 0 0] 85)) 57 #[.pointer (some ⟨w.heap.size, 0, none⟩), .int .i64 0, .int .i64 0, .bool false, .int .i64 0, .int .i64 0, .int .i64 0]
    rw [hz] at B2
    have O0 : Only NoF w ((w.alloc (.cells #[.slice none 0 0, .slice none 0 0] 85)).alloc (.cells #[.pointer (some ⟨w.heap.size, 0, none⟩), .int .i64 0, .int .i64 0, .bool false, .int .i64 0, .int .i64 0, .int .i64 0] 57)) := ((Only.refl NoF w).alloc _).alloc _
    have hm : DMem _ (w.heap.size + 1) w.heap.size (.slice none 0 0) (.slice none 0 0) [] (new 0) := ⟨B2, ⟨B1.alloc _, World.ownsRow_nil _ _ _ _, World.ownsRow_nil _ _ _ _, rfl, List.Pairwise.nil, Nat.zero_le _⟩, ⟨fun r hr => (by cases hr), List.Pairwise.nil⟩, rfl⟩
    refine (room_any _ _ (new 0) n _ hm.blk).mono ?_
    rintro e w' ⟨rfl, hb, ho⟩
    have hm2 : DMem w' (w.heap.size + 1) w.heap.size (.slice none 0 0) (.slice none 0 0) [] (new n) := hm.own ho hb rfl rfl
    have OF : Only NoF w w' := O0.trans ho (fun i e => .inr (by omega))
    refine ⟨rfl, DiskAt.mk' (fun k e => e.elim) OF (new_ok n) hm2 ?_, OF.below0⟩
    rintro k (rfl | (rfl | h | h) | ⟨r, hr, _⟩)
    · exact .inr (by omega)
    · exact .inr (Nat.le_refl _)
    · cases h
    · cases h
    · cases hr
  go_enter Try.func9, Try.ntmps9
  go_wp2_with fail
  refine (shnew_any _).mono ?_; rintro e w1 ⟨rfl, rfl⟩
  go_wp2_with fail
  refine (HFIN.out _ rfl).mono ?_; rintro e w2 ⟨rfl, h1, h2⟩
  have H1 := hid h1; have H2 := hid h2
  clear h1 h2
  go_wp2_with fail
  go_ret
  exact ⟨_, rfl, by omega, H1.out, H2.out⟩

section
variable (p : Nat) (F : Nat → Prop) (S : St) (w : World)
theorem isdown_any (h : DiskAt w p F S) : Calls Try.prog 18 #[.pointer (some ⟨p, 0, none⟩)] w fun e w' => e = .returned (.bool S.down) ∧ w = w' := by
  obtain ⟨-, -, m, ks, vs, R, h, -⟩ := h; exact down_any p m S w h.blk
theorem nacts_any (h : DiskAt w p F S) : Calls Try.prog 25 #[.pointer (some ⟨p, 0, none⟩)] w fun e w' => e = .returned (.int .i64 S.acts) ∧ w = w' := by
  obtain ⟨-, -, m, ks, vs, R, h, -⟩ := h; exact acts_any p m S w h.blk
theorem nlife_any (h : DiskAt w p F S) : Calls Try.prog 27 #[.pointer (some ⟨p, 0, none⟩)] w fun e w' => e = .returned (.int .i64 S.life) ∧ w = w' := by
  obtain ⟨-, -, m, ks, vs, R, h, -⟩ := h; exact life_any p m S w h.blk
theorem doff_any (n : Nat) (h : DiskAt w p F S) (hf : S.Fits n) (hn : n < big) : Calls Try.prog 13 #[.pointer (some ⟨p, 0, none⟩)] w fun e w' => e = .returned (.tuple #[]) ∧ DiskAt w' p (grow F w w') (offS S) ∧ Only F w w' := by
  obtain ⟨hF, hok, m, ks, vs, R, h, hDF⟩ := h
  refine (off_any p m S w h.blk (by have := hf.2.1; unfold big at hn; omega)).mono ?_
  rintro e w' ⟨rfl, hb, ho⟩
  exact ⟨rfl, DiskAt.acted hF hDF (off_ok hok) (h.own ho hb (by unfold offS; split <;> rfl) (by unfold offS; split <;> rfl)) ho⟩
theorem darm_any (n : Int) (hn : n ≤ 9223372036854775807) (h : DiskAt w p F S) : Calls Try.prog 16 #[.pointer (some ⟨p, 0, none⟩), .int .i64 n] w fun e w' => e = .returned (.tuple #[]) ∧ DiskAt w' p (grow F w w') (armS S n) ∧ Only F w w' := by
  obtain ⟨hF, hok, m, ks, vs, R, h, hDF⟩ := h
  refine (arm_any p m S n w h.blk hn).mono ?_
  rintro e w' ⟨rfl, hb, ho⟩
  exact ⟨rfl, DiskAt.acted hF hDF (arm_ok hok n) (h.own ho hb rfl rfl) ho⟩
theorem droom_any (n : Int) (h : DiskAt w p F S) : Calls Try.prog 36 #[.pointer (some ⟨p, 0, none⟩), .int .i64 n] w fun e w' => e = .returned (.tuple #[]) ∧ DiskAt w' p (grow F w w') (roomS S n) ∧ Only F w w' := by
  obtain ⟨hF, hok, m, ks, vs, R, h, hDF⟩ := h
  refine (room_any p m S n w h.blk).mono ?_
  rintro e w' ⟨rfl, hb, ho⟩
  exact ⟨rfl, DiskAt.acted hF hDF (room_ok hok n) (h.own ho hb rfl rfl) ho⟩
end
end Go.Proofs.Ythjomknhbfplnaa
