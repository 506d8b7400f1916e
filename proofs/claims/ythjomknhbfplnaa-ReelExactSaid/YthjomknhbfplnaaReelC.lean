/- The reel's calls: find, Size, Read, Names, cut. -/
import Derived.Test.YthjomknhbfplnaaReelB
import Derived.BigRegion
import Derived.ChangeAlike
namespace Go.Proofs.Ythjomknhbfplnaa
open Go.RowKit Reel
set_option linter.unusedVariables false

def grow (F : Nat → Prop) (w w' : World) : Nat → Prop := fun k => F k ∨ (w.heap.size ≤ k ∧ k < w'.heap.size)
def DiskAt (w : World) (p : Nat) (F : Nat → Prop) (S : St) : Prop := (∀ k, F k → k < w.heap.size) ∧ S.Ok ∧ ∃ m ks vs R, DMem w p m ks vs R S ∧ ∀ k, DF p m ks vs R k → F k
section
variable {w w' w'' : World} {p m : Nat} {ks vs : Value} {R : List RM} {S S' : St} {F G : Nat → Prop}
theorem DiskAt.mk' (hF : ∀ k, F k → k < w.heap.size) (ho : Only F w w') (hok : S.Ok) (hm : DMem w' p m ks vs R S) (hf : ∀ k, DF p m ks vs R k → F k ∨ w.heap.size ≤ k) : DiskAt w' p (grow F w w') S :=
  ⟨fun k hk => hk.elim (fun h => Nat.lt_of_lt_of_le (hF k h) ho.size) (fun h => h.2), hok, m, ks, vs, R, hm, fun k hk => (hf k hk).imp id (fun h => ⟨h, hm.lt k hk⟩)⟩
theorem DiskAt.only (h : DiskAt w p F S) (ho : Only G w w') (hd : ∀ k, F k → ¬ G k) : DiskAt w' p F S := by
  obtain ⟨h1, h2, m, ks, vs, R, h3, h4⟩ := h
  exact ⟨fun k hk => Nat.lt_of_lt_of_le (h1 k hk) ho.size, h2, m, ks, vs, R, h3.only ho (fun k hk => hd k (h4 k hk)), h4⟩
theorem DiskAt.below (h : DiskAt w p F S) (hb : Below w.heap.size w w') : DiskAt w' p F S := h.only (Only.of_below hb NoF) (fun _ _ e => e)
theorem DiskAt.mono (h : DiskAt w p F S) (hF : ∀ k, F k → G k) (hG : ∀ k, G k → k < w.heap.size) : DiskAt w p G S := by
  obtain ⟨h1, h2, m, ks, vs, R, h3, h4⟩ := h
  exact ⟨hG, h2, m, ks, vs, R, h3, fun k hk => hF k (h4 k hk)⟩
/-- two steps are one -/
theorem DiskAt.chain (h : DiskAt w'' p (grow (grow F w w') w' w'') S) (h1 : w.heap.size ≤ w'.heap.size) (h2 : w'.heap.size ≤ w''.heap.size) (hF : ∀ k, F k → k < w.heap.size) : DiskAt w'' p (grow F w w'') S :=
  h.mono (fun k hk => by
    rcases hk with (hk | hk) | hk
    · exact .inl hk
    · exact .inr ⟨hk.1, by omega⟩
    · exact .inr ⟨by omega, hk.2⟩) (fun k hk => by
    rcases hk with hk | hk
    · have := hF k hk; omega
    · exact hk.2)
theorem only_chain (h : Only F w w') (k : Only (grow F w w') w' w'') : Only F w w'' := h.trans k (fun i hi => hi.imp id (fun h => h.1))
end

/-! what stands under a name -/
section
variable {w : World} {p m : Nat} {ks vs : Value} {R : List RM} {S : St} {x : ByteArray}
theorem DMem.len (h : DMem w p m ks vs R S) : R.length = S.l.length := by have := h.map.2.2.2.1; simpa using this
theorem DMem.rising (h : DMem w p m ks vs R S) : Rising S.l := h.map.2.2.2.2.1
theorem DMem.yes (h : DMem w p m ks vs R S) (hx : hasN S.l x = true) : ∃ r, R[posOf S.l x]? = some r ∧ r ∈ R ∧ at_ S x = some r.t ∧ getVPtr S.l (R.map tp) x = tp r := by
  have hlt := ((posOf_mem h.rising x).2 (hasN_iff.1 hx)).1
  have hl := h.len
  refine ⟨R[posOf S.l x]'(by omega), List.getElem?_eq_getElem (by omega), List.getElem_mem _, ?_, ?_⟩
  · unfold at_
    rw [if_pos hx, h.ts, List.getElem?_map, List.getElem?_eq_getElem (by omega)]; rfl
  · unfold getVPtr
    rw [if_pos hx, List.getD_eq_getElem?_getD, List.getElem?_map, List.getElem?_eq_getElem (by omega)]; rfl
theorem at_no {S : St} {x : ByteArray} (hx : hasN S.l x = false) : at_ S x = none := by unfold at_; rw [if_neg (by simp [hx])]
end

theorem rfind_down (p m : Nat) (ks vs : Value) (R : List RM) (S : St) (x : ByteArray) (w : World) (h : DMem w p m ks vs R S) (hd : S.down = true) :
    Calls Try.prog 37 #[.pointer (some ⟨p, 0, none⟩), .string x] w fun e w' => e = .returned (.tuple #[.pointer none, .int .i64 10]) ∧ w = w' := by
  have CR := ready_any p m S w h.blk
  rw [if_pos hd] at CR
  have C := hid CR
  clear h CR hd
  go_enter Try.func37, Try.ntmps37
  go_wp2_with (go_at_call 60; refine C.out.mono ?_; rintro e w' ⟨rfl, rfl⟩)
  go_ret2
  exact ⟨rfl, rfl⟩
theorem rfind_nil (x : ByteArray) (w : World) :
    Calls Try.prog 37 #[.pointer none, .string x] w fun e w' => e = .returned (.tuple #[.pointer none, .int .i64 2]) ∧ w = w' := by
  go_enter Try.func37, Try.ntmps37
  go_wp2_with (go_at_call 60; refine (ready_nil _).mono ?_; rintro e w' ⟨rfl, rfl⟩)
  go_ret2
  exact ⟨rfl, rfl⟩
set_option maxHeartbeats 1000000 in
theorem rfind_no (p m : Nat) (ks vs : Value) (R : List RM) (S : St) (x : ByteArray) (w : World) (h : DMem w p m ks vs R S) (hd : S.down = false) (hx : hasN S.l x = false) :
    Calls Try.prog 37 #[.pointer (some ⟨p, 0, none⟩), .string x] w fun e w' => e = .returned (.tuple #[.pointer none, .int .i64 12]) ∧ w = w' := by
  have CR := ready_any p m S w h.blk
  rw [if_neg (by simp [hd])] at CR
  have C := hid CR
  obtain ⟨c0, -, -, -, -, -, -⟩ := h.blk.cells
  have CG := getPtr m ks vs S.l (R.map tp) x w h.map
  rw [hx] at CG
  have e : getVPtr S.l (R.map tp) x = none := by unfold getVPtr; rw [if_neg (by simp [hx])]
  rw [e] at CG
  have G := hid CG
  clear h CR hd CG hx e
  unfold encPtr at G
  go_enter Try.func37, Try.ntmps37
  go_wp2_with (first
    | (go_at_call 60; refine C.out.mono ?_; rintro e w' ⟨rfl, rfl⟩)
    | (go_at_call 42; refine G.out.mono ?_; rintro e w' ⟨rfl, rfl⟩))
  go_ret2
  exact ⟨rfl, rfl⟩
set_option maxHeartbeats 1000000 in
theorem rfind_yes (p m : Nat) (ks vs : Value) (R : List RM) (S : St) (x : ByteArray) (r : RM) (w : World) (h : DMem w p m ks vs R S) (hd : S.down = false) (hx : hasN S.l x = true) (hr : getVPtr S.l (R.map tp) x = tp r) :
    Calls Try.prog 37 #[.pointer (some ⟨p, 0, none⟩), .string x] w fun e w' => e = .returned (.tuple #[.pointer (some ⟨r.b, 0, none⟩), .int .i64 0]) ∧ w = w' := by
  have CR := ready_any p m S w h.blk
  rw [if_neg (by simp [hd])] at CR
  have C := hid CR
  obtain ⟨c0, -, -, -, -, -, -⟩ := h.blk.cells
  have CG := getPtr m ks vs S.l (R.map tp) x w h.map
  rw [hx, hr] at CG
  have G := hid CG
  clear h CR hd CG hx hr
  unfold encPtr tp at G
  go_enter Try.func37, Try.ntmps37
  go_wp2_with (first
    | (go_at_call 60; refine C.out.mono ?_; rintro e w' ⟨rfl, rfl⟩)
    | (go_at_call 42; refine G.out.mono ?_; rintro e w' ⟨rfl, rfl⟩))
  go_ret2
  exact ⟨rfl, rfl⟩

set_option maxHeartbeats 1000000 in
theorem size_mem (p m : Nat) (ks vs : Value) (R : List RM) (S : St) (x : ByteArray) (w : World) (h : DMem w p m ks vs R S) :
    Calls Try.prog 12 #[.pointer (some ⟨p, 0, none⟩), .string x] w fun e w' => e = .returned (.int .i64 (sizeS S x)) ∧ w = w' := by
  obtain ⟨c0, -, -, -, -, -, -⟩ := h.blk.cells
  have CG := getPtr m ks vs S.l (R.map tp) x w h.map
  cases hx : hasN S.l x
  · rw [hx] at CG
    have e : getVPtr S.l (R.map tp) x = none := by unfold getVPtr; rw [if_neg (by simp [hx])]
    rw [e] at CG
    have G := hid CG
    have HS : Hid (sizeS S x = -1) := by unfold Hid sizeS; rw [at_no hx]
    clear h CG hx e
    unfold encPtr at G
    go_enter Try.func12, Try.ntmps12
    go_wp2_with (go_at_call 42; refine G.out.mono ?_; rintro e w' ⟨rfl, rfl⟩)
    go_ret
    exact ⟨ret_int (by rw [HS.out]), rfl⟩
  · obtain ⟨r, h1, h2, h3, h4⟩ := h.yes hx
    rw [hx, h4] at CG
    have G := hid CG
    have HS : Hid (sizeS S x = r.t.bytes.length) := by unfold Hid sizeS; rw [h3]
    have ht := h.tapes.1 r h2
    obtain ⟨a, c, hv, hc⟩ := own_slice ht.2
    have cb := ht.1.cell 0
    simp [hv] at cb
    clear h CG hx h1 h2 h3 h4 ht hv
    unfold encPtr tp at G
    go_enter Try.func12, Try.ntmps12
    go_wp2_with (go_at_call 42; refine G.out.mono ?_; rintro e w' ⟨rfl, rfl⟩)
    go_ret
    exact ⟨ret_int (by rw [HS.out]), rfl⟩
theorem size_nil (x : ByteArray) (w : World) :
    Calls Try.prog 12 #[.pointer none, .string x] w fun e w' => e = .returned (.int .i64 (-1)) ∧ w = w' := by
  go_enter Try.func12, Try.ntmps12
  go_wp2
  go_ret
  exact ⟨rfl, rfl⟩
theorem size_any (p : Nat) (F : Nat → Prop) (S : St) (x : ByteArray) (w : World) (h : DiskAt w p F S) :
    Calls Try.prog 12 #[.pointer (some ⟨p, 0, none⟩), .string x] w fun e w' => e = .returned (.int .i64 (sizeS S x)) ∧ w = w' := by
  obtain ⟨-, -, m, ks, vs, R, h, -⟩ := h
  exact size_mem p m ks vs R S x w h
set_option maxHeartbeats 1000000 in
theorem read_any (p : Nat) (F : Nat → Prop) (S : St) (x : ByteArray) (w : World) (h : DiskAt w p F S) :
    Calls Try.prog 15 #[.pointer (some ⟨p, 0, none⟩), .string x] w fun e w' => e = .returned (.tuple #[.string ⟨(readS S x).1.toArray⟩, .int .i64 (readS S x).2]) ∧ w = w' := by
  obtain ⟨-, -, m, ks, vs, R, h, -⟩ := h
  cases hd : S.down
  · cases hx : hasN S.l x
    · have HS : readS S x = ([], 12) := by unfold readS; rw [if_neg (by simp [hd]), at_no hx]
      rw [HS]
      have C := hid (rfind_no p m ks vs R S x w h hd hx)
      clear h hd hx HS
      go_enter Try.func15, Try.ntmps15
      go_wp2_with (go_at_call 37; refine C.out.mono ?_; rintro e w' ⟨rfl, rfl⟩)
      go_ret2
      exact ⟨rfl, rfl⟩
    · obtain ⟨r, h1, h2, h3, h4⟩ := h.yes hx
      have HS : readS S x = (r.t.bytes, 0) := by unfold readS; rw [if_neg (by simp [hd]), h3]
      rw [HS]
      have C := hid (rfind_yes p m ks vs R S x r w h hd hx h4)
      have ht := h.tapes.1 r h2
      have hcv := conv_own ht.2
      have cb := ht.1.cell 0
      simp at cb
      obtain ⟨a, c, hv, hc⟩ := own_slice ht.2
      rw [hv] at cb hcv
      obtain ⟨N, hN⟩ : ∃ N, r.t.bytes.length = N := ⟨_, rfl⟩
      obtain ⟨T, hT⟩ : ∃ T : ByteArray, (⟨r.t.bytes.toArray⟩ : ByteArray) = T := ⟨_, rfl⟩
      rw [hN] at cb hcv
      simp only [hT] at hcv ⊢
      clear h hd hx HS h1 h2 h3 h4 ht hv hN hT hc
      go_enter Try.func15, Try.ntmps15
      go_wp2_with (go_at_call 37; refine C.out.mono ?_; rintro e w' ⟨rfl, rfl⟩)
      go_ret2
      exact ⟨rfl, rfl⟩
  · have HS : readS S x = ([], 10) := by unfold readS; rw [if_pos hd]
    rw [HS]
    have C := hid (rfind_down p m ks vs R S x w h hd)
    clear h hd HS
    go_enter Try.func15, Try.ntmps15
    go_wp2_with (go_at_call 37; refine C.out.mono ?_; rintro e w' ⟨rfl, rfl⟩)
    go_ret2
    exact ⟨rfl, rfl⟩
theorem read_nil (x : ByteArray) (w : World) :
    Calls Try.prog 15 #[.pointer none, .string x] w fun e w' => e = .returned (.tuple #[.string ⟨#[]⟩, .int .i64 2]) ∧ w = w' := by
  go_enter Try.func15, Try.ntmps15
  go_wp2_with (go_at_call 37; refine (rfind_nil _ _).mono ?_; rintro e w' ⟨rfl, rfl⟩)
  go_ret2
  exact ⟨rfl, rfl⟩
theorem names_any (p : Nat) (F : Nat → Prop) (S : St) (w : World) (h : DiskAt w p F S) :
    Calls Try.prog 32 #[.pointer (some ⟨p, 0, none⟩)] w fun e w' => ∃ v, e = .returned v ∧ w'.ownsRow w.heap.size 9 1 v S.l.length (svals S.l) ∧ Below w.heap.size w w' := by
  obtain ⟨-, -, m, ks, vs, R, h, -⟩ := h
  obtain ⟨c0, -, -, -, -, -, -⟩ := h.blk.cells
  have G := hid (keysPtr m ks vs S.l (R.map tp) w h.map)
  clear h
  go_enter Try.func32, Try.ntmps32
  go_wp2_with (go_at_call 59; refine G.out.mono ?_; rintro e w1 ⟨v, rfl, h1, h2⟩)
  go_ret
  exact ⟨_, rfl, h1, h2⟩
theorem names_nil (w : World) :
    Calls Try.prog 32 #[.pointer none] w fun e w' => e = .returned (.slice none 0 0) ∧ w = w' := by
  go_enter Try.func32, Try.ntmps32
  go_wp2
  go_ret
  exact ⟨rfl, rfl⟩
end Go.Proofs.Ythjomknhbfplnaa
