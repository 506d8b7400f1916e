/- The reel's disk in memory; the calls that touch its own cells alone. -/
import Derived.Test.YthjomknhbfplnaaReelPlain
import Derived.Test.YthjomknhbfplnaaShPtr
import Derived.Test.YthjomknhbfplnaaBytes
import Derived.StillTailTactics
namespace Go.Proofs.Ythjomknhbfplnaa
open Go.RowKit Reel
set_option linter.unusedVariables false

/-- the disk's own cells -/
def DBlk (w : World) (p m : Nat) (S : St) : Prop := Blk w p 57 #[.pointer (some ⟨m, 0, none⟩), .int .i64 S.used, .int .i64 S.room, .bool S.down, .int .i64 S.acts, .int .i64 S.armed, .int .i64 S.life]
theorem DBlk.cells {w : World} {p m : Nat} {S : St} (h : DBlk w p m S) :
    w.cell? ⟨p, 0, none⟩ = some (.pointer (some ⟨m, 0, none⟩)) ∧ w.cell? ⟨p, 1, none⟩ = some (.int .i64 S.used) ∧ w.cell? ⟨p, 2, none⟩ = some (.int .i64 S.room) ∧ w.cell? ⟨p, 3, none⟩ = some (.bool S.down) ∧ w.cell? ⟨p, 4, none⟩ = some (.int .i64 S.acts) ∧ w.cell? ⟨p, 5, none⟩ = some (.int .i64 S.armed) ∧ w.cell? ⟨p, 6, none⟩ = some (.int .i64 S.life) :=
  ⟨(Blk.cell h 0).trans rfl, (Blk.cell h 1).trans rfl, (Blk.cell h 2).trans rfl, (Blk.cell h 3).trans rfl, (Blk.cell h 4).trans rfl, (Blk.cell h 5).trans rfl, (Blk.cell h 6).trans rfl⟩

theorem down_nil (w : World) : Calls Try.prog 18 #[.pointer none] w fun e w' => e = .returned (.bool true) ∧ w = w' := by
  go_enter Try.func18, Try.ntmps18
  go_wp2
  go_ret
  exact ⟨rfl, rfl⟩
theorem down_any (p m : Nat) (S : St) (w : World) (h : DBlk w p m S) : Calls Try.prog 18 #[.pointer (some ⟨p, 0, none⟩)] w fun e w' => e = .returned (.bool S.down) ∧ w = w' := by
  obtain ⟨-, -, -, c3, -, -, -⟩ := h.cells
  obtain ⟨d, hd⟩ : ∃ d, S.down = d := ⟨_, rfl⟩
  rw [hd] at c3 ⊢
  clear h hd
  go_enter Try.func18, Try.ntmps18
  go_wp2
  go_ret
  exact ⟨rfl, rfl⟩
theorem acts_any (p m : Nat) (S : St) (w : World) (h : DBlk w p m S) : Calls Try.prog 25 #[.pointer (some ⟨p, 0, none⟩)] w fun e w' => e = .returned (.int .i64 S.acts) ∧ w = w' := by
  obtain ⟨-, -, -, -, c4, -, -⟩ := h.cells
  clear h
  go_enter Try.func25, Try.ntmps25
  go_wp2
  go_ret
  exact ⟨rfl, rfl⟩
theorem life_any (p m : Nat) (S : St) (w : World) (h : DBlk w p m S) : Calls Try.prog 27 #[.pointer (some ⟨p, 0, none⟩)] w fun e w' => e = .returned (.int .i64 S.life) ∧ w = w' := by
  obtain ⟨-, -, -, -, -, -, c6⟩ := h.cells
  clear h
  go_enter Try.func27, Try.ntmps27
  go_wp2
  go_ret
  exact ⟨rfl, rfl⟩
theorem ready_nil (w : World) : Calls Try.prog 60 #[.pointer none] w fun e w' => e = .returned (.int .i64 2) ∧ w = w' := by
  go_enter Try.func60, Try.ntmps60
  go_wp2
  go_ret
  exact ⟨rfl, rfl⟩
theorem ready_any (p m : Nat) (S : St) (w : World) (h : DBlk w p m S) : Calls Try.prog 60 #[.pointer (some ⟨p, 0, none⟩)] w fun e w' => e = .returned (.int .i64 (if S.down = true then 10 else 0)) ∧ w = w' := by
  obtain ⟨-, -, -, c3, -, -, -⟩ := h.cells
  cases hd : S.down
  · rw [hd] at c3
    clear h hd
    go_enter Try.func60, Try.ntmps60
    go_wp2
    go_ret
    exact ⟨rfl, rfl⟩
  · rw [hd] at c3
    clear h hd
    go_enter Try.func60, Try.ntmps60
    go_wp2
    go_ret
    exact ⟨rfl, rfl⟩
theorem isName_any (s : ByteArray) (w : World) (hs : s.size ≤ 9223372036854775807) : Calls Try.prog 38 #[.string s] w fun e w' => e = .returned (.bool (isName s)) ∧ w = w' := by
  by_cases h0 : s.size = 0
  · have n1 := bstr_nil h0
    have HX : Hid (isName s = false) := decide_eq_false (by omega)
    go_enter Try.func38, Try.ntmps38
    go_wp2
    go_ret
    exact ⟨ret_bool (by rw [HX.out]), rfl⟩
  · have n1 := bstr_some h0
    have n2 := bstr_isEmpty h0
    by_cases h1 : s.size ≤ 32
    · have HX : Hid (isName s = true) := decide_eq_true (by omega)
      have g1 : (s.size : Int) ≤ 32 := by omega
      go_enter Try.func38, Try.ntmps38
      go_wp2
      go_ret
      exact ⟨ret_bool (by rw [HX.out]), rfl⟩
    · have HX : Hid (isName s = false) := decide_eq_false (by omega)
      have g1 : ¬ (s.size : Int) ≤ 32 := by omega
      go_enter Try.func38, Try.ntmps38
      go_wp2
      go_ret
      exact ⟨ret_bool (by rw [HX.out]), rfl⟩

/-! calls that write the disk's own cells -/
set_option maxHeartbeats 1000000 in
theorem off_any (p m : Nat) (S : St) (w : World) (h : DBlk w p m S) (hl : S.life < 4611686018427387904) :
    Calls Try.prog 13 #[.pointer (some ⟨p, 0, none⟩)] w fun e w' => e = .returned (.tuple #[]) ∧ DBlk w' p m (offS S) ∧ Only (· = p) w w' := by
  obtain ⟨c0, c1, c2, c3, c4, c5, c6⟩ := h.cells
  cases hd : S.down
  · rw [hd] at c3
    have f3 := Blk.frozen h 3
    have f5 := Blk.frozen h 5
    have f6 := Blk.frozen h 6
    have HFIN : Hid (DBlk (((w.setCell ⟨p, 3, none⟩ (.bool true)).setCell ⟨p, 5, none⟩ (.int .i64 0)).setCell ⟨p, 6, none⟩ (.int .i64 ((S.life : Int) + 1))) p m (offS S) ∧ Only (· = p) w (((w.setCell ⟨p, 3, none⟩ (.bool true)).setCell ⟨p, 5, none⟩ (.int .i64 0)).setCell ⟨p, 6, none⟩ (.int .i64 ((S.life : Int) + 1)))) := by
      have e : offS S = { S with down := true, armed := 0, life := S.life + 1 } := by unfold offS; rw [if_neg (by simp [hd])]
      rw [e]
      refine ⟨?_, (((Only.refl (· = p) w).setCell (p := ⟨p, 3, none⟩) (.inl rfl) _).setCell (p := ⟨p, 5, none⟩) (.inl rfl) _).setCell (p := ⟨p, 6, none⟩) (.inl rfl) _⟩
      have := ((Blk.set h 3 (.bool true)).set 5 (.int .i64 0)).set 6 (.int .i64 ((S.life : Int) + 1))
      unfold DBlk
      simpa using this
    clear h hd c0 c1 c2 c4
    go_enter Try.func13, Try.ntmps13
    go_wp2
    go_end0
    exact ⟨rfl, HFIN.out⟩
  · rw [hd] at c3
    have e : offS S = S := by unfold offS; rw [if_pos hd]
    rw [e]
    have H := hid h
    clear h hd e c0 c1 c2 c4 c5 c6
    go_enter Try.func13, Try.ntmps13
    go_wp2
    exact bodyPost_ret (results_none rfl _ _ _) rfl ⟨rfl, H.out, Only.refl _ _⟩

theorem off_nil (w : World) : Calls Try.prog 13 #[.pointer none] w fun e w' => e = .returned (.tuple #[]) ∧ w = w' := by
  go_enter Try.func13, Try.ntmps13
  go_wp2
  exact bodyPost_ret (results_none rfl _ _ _) rfl ⟨rfl, rfl⟩
set_option maxHeartbeats 1000000 in
theorem arm_any (p m : Nat) (S : St) (n : Int) (w : World) (h : DBlk w p m S) (hn : n ≤ 9223372036854775807) :
    Calls Try.prog 16 #[.pointer (some ⟨p, 0, none⟩), .int .i64 n] w fun e w' => e = .returned (.tuple #[]) ∧ DBlk w' p m (armS S n) ∧ Only (· = p) w w' := by
  obtain ⟨c0, c1, c2, c3, c4, c5, c6⟩ := h.cells
  have f5 := Blk.frozen h 5
  have HFIN : ∀ k : Int, k = ((n.toNat : Nat) : Int) → (DBlk (w.setCell ⟨p, 5, none⟩ (.int .i64 k)) p m (armS S n) ∧ Only (· = p) w (w.setCell ⟨p, 5, none⟩ (.int .i64 k))) := fun k hk => by
    refine ⟨?_, (Only.refl (· = p) w).setCell (p := ⟨p, 5, none⟩) (.inl rfl) _⟩
    have := Blk.set h 5 (.int .i64 k)
    unfold DBlk armS
    rw [← hk]
    simpa using this
  have HF := hid HFIN
  clear h HFIN c0 c1 c2 c3 c4 c6
  by_cases h0 : 0 ≤ n
  · go_enter Try.func16, Try.ntmps16
    go_wp2
    go_end0
    exact ⟨rfl, HF.out _ (by omega)⟩
  · go_enter Try.func16, Try.ntmps16
    go_wp2
    go_end0
    exact ⟨rfl, HF.out _ (by omega)⟩
set_option maxHeartbeats 1000000 in
theorem room_any (p m : Nat) (S : St) (n : Int) (w : World) (h : DBlk w p m S) :
    Calls Try.prog 36 #[.pointer (some ⟨p, 0, none⟩), .int .i64 n] w fun e w' => e = .returned (.tuple #[]) ∧ DBlk w' p m (roomS S n) ∧ Only (· = p) w w' := by
  obtain ⟨c0, c1, c2, c3, c4, c5, c6⟩ := h.cells
  have f2 := Blk.frozen h 2
  have HFIN : ∀ k : Int, k = ((roomOf n : Nat) : Int) → (DBlk (w.setCell ⟨p, 2, none⟩ (.int .i64 k)) p m (roomS S n) ∧ Only (· = p) w (w.setCell ⟨p, 2, none⟩ (.int .i64 k))) := fun k hk => by
    refine ⟨?_, (Only.refl (· = p) w).setCell (p := ⟨p, 2, none⟩) (.inl rfl) _⟩
    have := Blk.set h 2 (.int .i64 k)
    unfold DBlk roomS
    rw [← hk]
    simpa using this
  have HF := hid HFIN
  clear h HFIN c0 c1 c3 c4 c5 c6
  by_cases h0 : 0 ≤ n
  · by_cases h1 : 67108864 < n
    · have e : Hid (roomOf n = 67108864) := by unfold Hid roomOf; rw [if_neg (by omega), if_pos h1]
      go_enter Try.func36, Try.ntmps36
      go_wp2
      go_end0
      exact ⟨rfl, HF.out _ (by rw [e.out]; omega)⟩
    · have e : Hid (roomOf n = n.toNat) := by unfold Hid roomOf; rw [if_neg (by omega), if_neg h1]
      go_enter Try.func36, Try.ntmps36
      go_wp2
      go_end0
      exact ⟨rfl, HF.out _ (by rw [e.out]; omega)⟩
  · have e : Hid (roomOf n = 0) := by unfold Hid roomOf; rw [if_pos (by omega)]
    go_enter Try.func36, Try.ntmps36
    go_wp2
    go_end0
    exact ⟨rfl, HF.out _ (by rw [e.out]; omega)⟩
set_option maxHeartbeats 2000000 in
theorem act_any (p m : Nat) (S : St) (w : World) (h : DBlk w p m S) (hd : S.down = false) (ha : S.acts < 4611686018427387904) (hl : S.life < 4611686018427387904) (hr : S.armed ≤ 9223372036854775807) :
    Calls Try.prog 41 #[.pointer (some ⟨p, 0, none⟩)] w fun e w' => e = .returned (.int .i64 (actS S).2) ∧ DBlk w' p m (actS S).1 ∧ Only (· = p) w w' := by
  obtain ⟨c0, c1, c2, c3, c4, c5, c6⟩ := h.cells
  have f4 := Blk.frozen h 4
  have f5 := Blk.frozen h 5
  have O1 : Only (· = p) w (w.setCell ⟨p, 4, none⟩ (.int .i64 ((S.acts : Int) + 1))) := (Only.refl (· = p) w).setCell (p := ⟨p, 4, none⟩) (.inl rfl) _
  have B1 : DBlk (w.setCell ⟨p, 4, none⟩ (.int .i64 ((S.acts : Int) + 1))) p m { S with acts := S.acts + 1 } := by
    have := Blk.set h 4 (.int .i64 ((S.acts : Int) + 1))
    unfold DBlk
    simpa using this
  by_cases h0 : S.armed = 0
  · have e : actS S = ({ S with acts := S.acts + 1 }, 0) := by unfold actS; rw [if_pos h0]
    rw [e]
    have b0 : ((S.armed : Int) == 0) = true := by simp [h0]
    have HB := hid B1; have HO := hid O1
    clear h B1 O1 c0 c1 c2 c3 c6 h0 e
    go_enter Try.func41, Try.ntmps41
    go_wp2
    go_ret
    exact ⟨rfl, HB.out, HO.out⟩
  · have b0 : ((S.armed : Int) == 0) = false := by rw [beq_eq_false_iff_ne]; omega
    by_cases h1 : S.armed = 1
    · have e : actS S = ({ S with acts := S.acts + 1, down := true, armed := 0, life := S.life + 1 }, 10) := by unfold actS; rw [if_neg h0, if_pos h1]
      rw [e]
      have O2 : Only (· = p) w ((w.setCell ⟨p, 4, none⟩ (.int .i64 ((S.acts : Int) + 1))).setCell ⟨p, 5, none⟩ (.int .i64 0)) := O1.setCell (p := ⟨p, 5, none⟩) (.inl rfl) _
      have B2 : DBlk ((w.setCell ⟨p, 4, none⟩ (.int .i64 ((S.acts : Int) + 1))).setCell ⟨p, 5, none⟩ (.int .i64 0)) p m { S with acts := S.acts + 1, armed := 0 } := by
        have := Blk.set B1 5 (.int .i64 0)
        unfold DBlk
        simpa using this
      have CO := hid (off_any p m _ _ B2 (by exact hl))
      have eo : offS { S with acts := S.acts + 1, armed := 0 } = { S with acts := S.acts + 1, down := true, armed := 0, life := S.life + 1 } := by unfold offS; rw [if_neg (by simp [hd])]
      rw [eo] at CO
      have g1 : ((S.armed : Int) - 1) = 0 := by omega
      have HO := hid O2
      clear h B1 O1 O2 B2 c0 c1 c2 c3 c6 h0 e eo
      rw [h1] at c5
      clear h1 g1 b0 hr
      go_enter Try.func41, Try.ntmps41
      go_wp2_with fail
      refine CO.out.mono ?_; rintro e w' ⟨rfl, hb, ho⟩
      go_wp2_with fail
      go_ret
      exact ⟨rfl, hb, HO.out.then ho⟩
    · have e : actS S = ({ S with acts := S.acts + 1, armed := S.armed - 1 }, 0) := by unfold actS; rw [if_neg h0, if_neg h1]
      rw [e]
      have O2 : Only (· = p) w ((w.setCell ⟨p, 4, none⟩ (.int .i64 ((S.acts : Int) + 1))).setCell ⟨p, 5, none⟩ (.int .i64 ((S.armed : Int) - 1))) := O1.setCell (p := ⟨p, 5, none⟩) (.inl rfl) _
      have B2 : DBlk ((w.setCell ⟨p, 4, none⟩ (.int .i64 ((S.acts : Int) + 1))).setCell ⟨p, 5, none⟩ (.int .i64 ((S.armed : Int) - 1))) p m { S with acts := S.acts + 1, armed := S.armed - 1 } := by
        have := Blk.set B1 5 (.int .i64 ((S.armed : Int) - 1))
        unfold DBlk
        rw [show ((S.armed - 1 : Nat) : Int) = (S.armed : Int) - 1 by omega]
        simpa using this
      have g1 : (0 : Int) < (S.armed : Int) - 1 := by omega
      have HB := hid B2; have HO := hid O2
      clear h B1 O1 O2 B2 c0 c1 c2 c3 c6 h0 e
      go_enter Try.func41, Try.ntmps41
      go_wp2
      go_ret
      exact ⟨rfl, HB.out, HO.out⟩
theorem ret_ib {a b : Int} {c : Bool} (h : a = b) : Ending.returned (.tuple #[.int .i64 a, .bool c]) = .returned (.tuple #[.int .i64 b, .bool c]) := by rw [h]
set_option maxHeartbeats 1000000 in
theorem kept_any (f : Int) (k : Nat) (w : World) (hf : -9223372036854775808 ≤ f) (hf2 : f ≤ 9223372036854775807) (hk : k ≤ 4194304) (hk0 : 0 < k) :
    Calls Try.prog 44 #[.int .i64 f, .int .i64 k] w fun e w' => e = .returned (.tuple #[.int .i64 (kept f k).1, .bool (kept f k).2]) ∧ w = w' := by
  by_cases h0 : 0 ≤ f
  · have e : kept f k = (min f.toNat k, false) := by unfold kept; rw [if_pos h0]
    rw [e]
    by_cases h1 : f ≤ k
    · have e1 : ((min f.toNat k : Nat) : Int) = f := by omega
      simp only [e1]
      clear e e1
      go_enter Try.func44, Try.ntmps44
      go_wp2
      go_ret2
      exact ⟨ret_ib (by omega), rfl⟩
    · have e1 : (min f.toNat k : Nat) = k := by omega
      simp only [e1]
      clear e e1
      go_enter Try.func44, Try.ntmps44
      go_wp2
      go_ret2
      exact ⟨ret_ib (by omega), rfl⟩
  · by_cases h1 : f ≤ -(k : Int)
    · have e : kept f k = (k, true) := by unfold kept; rw [if_neg h0, if_pos h1]
      rw [e]
      clear e
      go_enter Try.func44, Try.ntmps44
      go_wp2
      go_ret2
      exact ⟨ret_ib (by omega), rfl⟩
    · have e : kept f k = ((-f).toNat, true) := by unfold kept; rw [if_neg h0, if_neg h1]
      rw [e]
      have e1 : (((-f).toNat : Nat) : Int) = -f := by omega
      simp only [e1]
      clear e e1
      go_enter Try.func44, Try.ntmps44
      go_wp2
      go_ret2
      exact ⟨ret_ib (by omega), rfl⟩
end Go.Proofs.Ythjomknhbfplnaa
