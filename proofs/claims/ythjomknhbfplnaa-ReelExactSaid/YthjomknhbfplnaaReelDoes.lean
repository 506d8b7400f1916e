/- The walk of the laws' 'does'; a nil disk's calls. -/
import Derived.Test.YthjomknhbfplnaaOpenActs
namespace Go.Proofs.Ythjomknhbfplnaa
open Go.RowKit Reel
set_option linter.unusedVariables false

section
variable {K : Nat → Prop} {p : Nat} {S S' : St} {w w' : World}
theorem cut_K (n : Nat) (x : ByteArray) (k : Int) (h : DK K w p S) (hf : S.Fits n) (hn : n < big) (hk1 : -9223372036854775808 ≤ k) (hk2 : k ≤ 9223372036854775807) :
    Calls Try.prog 19 #[.pointer (some ⟨p, 0, none⟩), .string x, .int .i64 k] w fun e w' => e = .returned (.int .i64 (cutS S x k).2) ∧ DK K w' p (cutS S x k).1 ∧ Only (fun k => ¬ K k) w w' := by
  obtain ⟨F, h1, h2, h3⟩ := h
  refine (cut_any p F S x k w n h1 hf hn hk1 hk2).mono ?_; rintro e w' ⟨rfl, hd, ho⟩
  exact ⟨rfl, DK.next h2 h3 hd ho⟩
theorem swap_K (n : Nat) (x to : ByteArray) (h : DK K w p S) (hf : S.Fits n) (hn : n < big) (hto : to.size ≤ 9223372036854775807) :
    Calls Try.prog 20 #[.pointer (some ⟨p, 0, none⟩), .string x, .string to] w fun e w' => e = .returned (.int .i64 (swapS S x to).2) ∧ DK K w' p (swapS S x to).1 ∧ Only (fun k => ¬ K k) w w' := by
  obtain ⟨F, h1, h2, h3⟩ := h
  refine (swap_any p F S x to w n h1 hf hn hto).mono ?_; rintro e w' ⟨rfl, hd, ho⟩
  exact ⟨rfl, DK.next h2 h3 hd ho⟩
theorem drop_K (n : Nat) (x : ByteArray) (h : DK K w p S) (hf : S.Fits n) (hn : n < big) :
    Calls Try.prog 17 #[.pointer (some ⟨p, 0, none⟩), .string x] w fun e w' => e = .returned (.int .i64 (dropS S x).2) ∧ DK K w' p (dropS S x).1 ∧ Only (fun k => ¬ K k) w w' := by
  obtain ⟨F, h1, h2, h3⟩ := h
  refine (drop_any p F S x w n h1 hf hn).mono ?_; rintro e w' ⟨rfl, hd, ho⟩
  exact ⟨rfl, DK.next h2 h3 hd ho⟩
theorem arm_K (k : Int) (hk : k ≤ 9223372036854775807) (h : DK K w p S) :
    Calls Try.prog 16 #[.pointer (some ⟨p, 0, none⟩), .int .i64 k] w fun e w' => e = .returned (.tuple #[]) ∧ DK K w' p (armS S k) ∧ Only (fun k => ¬ K k) w w' := by
  obtain ⟨F, h1, h2, h3⟩ := h
  refine (darm_any (n := k) (hn := hk) (h := h1)).mono ?_; rintro e w' ⟨rfl, hd, ho⟩
  exact ⟨rfl, DK.next h2 h3 hd ho⟩
theorem room_K (k : Int) (h : DK K w p S) :
    Calls Try.prog 36 #[.pointer (some ⟨p, 0, none⟩), .int .i64 k] w fun e w' => e = .returned (.tuple #[]) ∧ DK K w' p (roomS S k) ∧ Only (fun k => ¬ K k) w w' := by
  obtain ⟨F, h1, h2, h3⟩ := h
  refine (droom_any (n := k) (h := h1)).mono ?_; rintro e w' ⟨rfl, hd, ho⟩
  exact ⟨rfl, DK.next h2 h3 hd ho⟩
theorem names_K (h : DK K w p S) :
    Calls Try.prog 32 #[.pointer (some ⟨p, 0, none⟩)] w fun e w' => ∃ v, e = .returned v ∧ w'.ownsRow w.heap.size 9 1 v S.l.length (svals S.l) ∧ Below w.heap.size w w' := by
  obtain ⟨F, h1, h2, h3⟩ := h; exact names_any p F S w h1
theorem down_K (h : DK K w p S) : Calls Try.prog 18 #[.pointer (some ⟨p, 0, none⟩)] w fun e w' => e = .returned (.bool S.down) ∧ w = w' := by
  obtain ⟨F, h1, h2, h3⟩ := h; exact isdown_any (h := h1)
theorem acts_K (h : DK K w p S) : Calls Try.prog 25 #[.pointer (some ⟨p, 0, none⟩)] w fun e w' => e = .returned (.int .i64 S.acts) ∧ w = w' := by
  obtain ⟨F, h1, h2, h3⟩ := h; exact nacts_any (h := h1)
theorem life_K (h : DK K w p S) : Calls Try.prog 27 #[.pointer (some ⟨p, 0, none⟩)] w fun e w' => e = .returned (.int .i64 S.life) ∧ w = w' := by
  obtain ⟨F, h1, h2, h3⟩ := h; exact nlife_any (h := h1)
theorem D.ok {B : Nat} (h : D B w p S) : S.Ok := by obtain ⟨F, h1, -, -⟩ := h; exact h1.2.1
theorem DK.ok (h : DK K w p S) : S.Ok := by obtain ⟨F, h1, -, -⟩ := h; exact h1.2.1
theorem DK.below (h : DK K w p S) (hb : Below w.heap.size w w') : DK K w' p S := h.only (Only.of_below hb NoF) (fun _ e => e.elim)
/-- the disk leaves a block alone that was made behind it -/
theorem DK.of_D {B : Nat} {G : Nat → Prop} (h : D B w p S) (hG : ∀ k, G k → w.heap.size ≤ k ∧ k < w'.heap.size) (hb : Below w.heap.size w w') : DK (fun k => k < B ∨ G k) w' p S := by
  obtain ⟨F, h1, h2, h3⟩ := h
  refine ⟨F, h1.below hb, fun k hk e => ?_, fun k hk => ?_⟩
  · have := h1.1 k hk; have := h2 k hk
    rcases e with e | e
    · omega
    · have := hG k e; omega
  · have := hb.size
    rcases hk with e | e
    · omega
    · exact (hG k e).2
theorem DK.to_D {B : Nat} (h : DK K w p S) (hK : ∀ k, k < B → K k) (hB : B ≤ w.heap.size) : D B w p S := by
  obtain ⟨F, h1, h2, h3⟩ := h
  exact ⟨F, h1, fun k hk => Nat.le_of_not_lt (fun e => h2 k hk (hK k e)), hB⟩
end
section
variable {K : Nat → Prop} {p : Nat} {S : St} {w : World}
set_option maxHeartbeats 4000000 in
theorem does_K (n : Nat) (x : ActV) (fa : Option Addr) (fn fc : Nat) (h : DK K w p S) (hf : S.Fits n) (hn : n < big) (hx : ActV.Wf x) (ht : x.text.size ≤ 4096) (hI : IntsAt w fa fn x.fates) (ha : fn ≠ 0 → ∀ b off, fa = some ⟨b, off, none⟩ → K b) :
    Calls Try.prog 22 #[.pointer (some ⟨p, 0, none⟩), .agg #[.int .i64 x.kind, .string x.name, .string x.text, .int .i64 x.n, .slice fa fn fc]] w fun e w' => e = .returned (.int .i64 (doesS S x).2) ∧ DK K w' p (doesS S x).1 ∧ Only (fun k => ¬ K k) w w' := by
  obtain ⟨kind, name, text, nn, fates⟩ := x
  obtain ⟨⟨k1, k2⟩, ⟨n1, n2⟩, hz1, hz2⟩ := hx
  simp only at k1 k2 n1 n2 hz1 hz2 ht hI ⊢
  obtain ⟨W, hW⟩ : ∃ W, w.alloc (.cells #[.int .i64 kind, .string name, .string text, .int .i64 nn, .slice fa fn fc] 46) = W := ⟨_, rfl⟩
  have hb : Below w.heap.size w W := by rw [← hW]; exact (Below.refl _ _).alloc (Nat.le_refl _) _
  have HD := hid (h.below hb)
  have HB : Hid (Only (fun k => ¬ K k) w W) := Only.of_below hb _
  have HI := hid (ints_later hI hb)
  have HF := hid hf; have HA := hid ha; have HD0 := hid h; have HBB := hid hb
  have HT : Hid (text.size ≤ 140737488355328) := Nat.le_trans ht (by decide)
  have HZ := hid hz1; have HZ2 := hid hz2
  have HW := hid hW
  clear h hf ha hI hb hW ht hz1 hz2
  have hk : kind = 1 ∨ kind = 2 ∨ kind = 3 ∨ kind = 4 ∨ kind = 5 ∨ kind = 6 ∨ kind = 7 ∨ kind = 8 ∨ kind = 9 ∨ (kind ≠ 1 ∧ kind ≠ 2 ∧ kind ≠ 3 ∧ kind ≠ 4 ∧ kind ≠ 5 ∧ kind ≠ 6 ∧ kind ≠ 7 ∧ kind ≠ 8 ∧ kind ≠ 9) := by omega
  rcases hk with rfl | rfl | rfl | rfl | rfl | rfl | rfl | rfl | rfl | ⟨c1, c2, c3, c4, c5, c6, c7, c8, c9⟩
  · go_enter Try.func22, Try.ntmps22
    go_wp2_with fail
    rw [HW.out]
    refine (append_K n name text HD.out HF.out hn HZ.out HT.out).mono ?_; rintro e w' ⟨rfl, hd, hb⟩
    have R : Hid (DK K w' p (doesS S ⟨1, name, text, nn, fates⟩).1 ∧ Only (fun k => ¬ K k) w w') := ⟨hd, HB.out.then hb⟩
    clear hd hb
    go_wp2_with fail
    go_ret
    exact ⟨rfl, R.out⟩
  · go_enter Try.func22, Try.ntmps22
    go_wp2_with fail
    rw [HW.out]
    refine (sync_K n name HD.out HF.out hn).mono ?_; rintro e w' ⟨rfl, hd, hb⟩
    have R : Hid (DK K w' p (doesS S ⟨2, name, text, nn, fates⟩).1 ∧ Only (fun k => ¬ K k) w w') := ⟨hd, HB.out.then hb⟩
    clear hd hb
    go_wp2_with fail
    go_ret
    exact ⟨rfl, R.out⟩
  · go_enter Try.func22, Try.ntmps22
    go_wp2_with fail
    rw [HW.out]
    refine (cut_K n name nn HD.out HF.out hn n1 n2).mono ?_; rintro e w' ⟨rfl, hd, hb⟩
    have R : Hid (DK K w' p (doesS S ⟨3, name, text, nn, fates⟩).1 ∧ Only (fun k => ¬ K k) w w') := ⟨hd, HB.out.then hb⟩
    clear hd hb
    go_wp2_with fail
    go_ret
    exact ⟨rfl, R.out⟩
  · go_enter Try.func22, Try.ntmps22
    go_wp2_with fail
    rw [HW.out]
    refine (swap_K n name text HD.out HF.out hn HZ2.out).mono ?_; rintro e w' ⟨rfl, hd, hb⟩
    have R : Hid (DK K w' p (doesS S ⟨4, name, text, nn, fates⟩).1 ∧ Only (fun k => ¬ K k) w w') := ⟨hd, HB.out.then hb⟩
    clear hd hb
    go_wp2_with fail
    go_ret
    exact ⟨rfl, R.out⟩
  · go_enter Try.func22, Try.ntmps22
    go_wp2_with fail
    rw [HW.out]
    refine (drop_K n name HD.out HF.out hn).mono ?_; rintro e w' ⟨rfl, hd, hb⟩
    have R : Hid (DK K w' p (doesS S ⟨5, name, text, nn, fates⟩).1 ∧ Only (fun k => ¬ K k) w w') := ⟨hd, HB.out.then hb⟩
    clear hd hb
    go_wp2_with fail
    go_ret
    exact ⟨rfl, R.out⟩
  · go_enter Try.func22, Try.ntmps22
    go_wp2_with fail
    rw [HW.out]
    refine (off_K n HD.out HF.out hn).mono ?_; rintro e w' ⟨rfl, hd, hb⟩
    have R : Hid (DK K w' p (doesS S ⟨6, name, text, nn, fates⟩).1 ∧ Only (fun k => ¬ K k) w w') := ⟨hd, HB.out.then hb⟩
    clear hd hb
    go_wp2_with fail
    go_ret
    exact ⟨rfl, R.out⟩
  · go_enter Try.func22, Try.ntmps22
    go_wp2_with fail
    rw [HW.out]
    refine (on_K fa fn fc fates HD.out HI.out (fun h b o e => HA.out h b o e)).mono ?_; rintro e w' ⟨rfl, hd, hb⟩
    have R : Hid (DK K w' p (doesS S ⟨7, name, text, nn, fates⟩).1 ∧ Only (fun k => ¬ K k) w w') := ⟨hd, HB.out.then hb⟩
    clear hd hb
    go_wp2_with fail
    go_ret
    exact ⟨rfl, R.out⟩
  · go_enter Try.func22, Try.ntmps22
    go_wp2_with fail
    rw [HW.out]
    refine (arm_K nn n2 HD.out).mono ?_; rintro e w' ⟨rfl, hd, hb⟩
    have R : Hid (DK K w' p (doesS S ⟨8, name, text, nn, fates⟩).1 ∧ Only (fun k => ¬ K k) w w') := ⟨hd, HB.out.then hb⟩
    clear hd hb
    go_wp2_with fail
    go_ret
    exact ⟨rfl, R.out⟩
  · go_enter Try.func22, Try.ntmps22
    go_wp2_with fail
    rw [HW.out]
    refine (room_K nn HD.out).mono ?_; rintro e w' ⟨rfl, hd, hb⟩
    have R : Hid (DK K w' p (doesS S ⟨9, name, text, nn, fates⟩).1 ∧ Only (fun k => ¬ K k) w w') := ⟨hd, HB.out.then hb⟩
    clear hd hb
    go_wp2_with fail
    go_ret
    exact ⟨rfl, R.out⟩
  · have R : Hid (doesS S ⟨kind, name, text, nn, fates⟩ = (S, 0)) := by
      unfold Hid doesS
      simp only
      rw [if_neg c1, if_neg c2, if_neg c3, if_neg c4, if_neg c5, if_neg c6, if_neg c7, if_neg c8, if_neg c9]
    have c1 : (kind == 1) = false := by simpa using c1
    have c2 : (kind == 2) = false := by simpa using c2
    have c3 : (kind == 3) = false := by simpa using c3
    have c4 : (kind == 4) = false := by simpa using c4
    have c5 : (kind == 5) = false := by simpa using c5
    have c6 : (kind == 6) = false := by simpa using c6
    have c7 : (kind == 7) = false := by simpa using c7
    have c8 : (kind == 8) = false := by simpa using c8
    have c9 : (kind == 9) = false := by simpa using c9
    go_enter Try.func22, Try.ntmps22
    go_wp2_with fail
    rw [HW.out]
    go_ret
    rw [R.out]
    exact ⟨rfl, HD.out, HB.out⟩
end

/-! a nil disk -/
theorem find_nil (x : ByteArray) (w : World) : Calls Try.prog 37 #[.pointer none, .string x] w fun e w' => e = .returned (.tuple #[.pointer none, .int .i64 2]) ∧ w = w' := by
  go_enter Try.func37, Try.ntmps37
  go_wp2_with (go_at_call 60; refine (ready_nil _).mono ?_; rintro e w' ⟨rfl, rfl⟩)
  go_ret2
  exact ⟨rfl, rfl⟩
theorem append_nil (x s : ByteArray) (w : World) : Calls Try.prog 10 #[.pointer none, .string x, .string s] w fun e w' => e = .returned (.int .i64 2) ∧ w = w' := by
  go_enter Try.func10, Try.ntmps10
  go_wp2_with (go_at_call 37; refine (find_nil _ _).mono ?_; rintro e w' ⟨rfl, rfl⟩)
  go_ret
  exact ⟨rfl, rfl⟩
end Go.Proofs.Ythjomknhbfplnaa
