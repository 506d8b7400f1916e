/- A disk in memory of one's own: the contracts in this form, as laws want them; the law's own test of some answers. -/
import Derived.Test.YthjomknhbfplnaaReelI
namespace Go.Proofs.Ythjomknhbfplnaa
open Go.RowKit Reel
set_option linter.unusedVariables false

/-- a disk that lies, whole, at or above B -/
def D (B : Nat) (w : World) (p : Nat) (S : St) : Prop := ∃ F, DiskAt w p F S ∧ (∀ k, F k → B ≤ k) ∧ B ≤ w.heap.size
section
variable {B p : Nat} {S S' : St} {w w' : World}
theorem D.below (h : D B w p S) (hb : Below w.heap.size w w') : D B w' p S := by
  obtain ⟨F, h1, h2, h3⟩ := h
  exact ⟨F, h1.below hb, h2, Nat.le_trans h3 hb.size⟩
theorem D.drew (h : D B w p S) : D B w.drew p S := h.below ((Below.refl _ w).drew)
theorem D.next {F : Nat → Prop} (hF : ∀ k, F k → B ≤ k) (hB : B ≤ w.heap.size) (h : DiskAt w' p (grow F w w') S) (ho : Only F w w') : D B w' p S ∧ Below B w w' :=
  ⟨⟨_, h, fun k hk => hk.elim (hF k) (fun e => by omega), Nat.le_trans hB ho.size⟩, ho.below hF hB⟩
theorem new_D (n : Int) (hB : B ≤ w.heap.size) : Calls Try.prog 9 #[.int .i64 n] w fun e w' => ∃ p, e = .returned (.pointer (some ⟨p, 0, none⟩)) ∧ D B w' p (Reel.new n) ∧ Below w.heap.size w w' := by
  refine (new_any n w).mono ?_; rintro e w' ⟨p, rfl, hp, hd, hb⟩
  exact ⟨p, rfl, ⟨_, hd, fun k hk => hk.elim (fun e => e.elim) (fun e => by omega), Nat.le_trans hB hb.size⟩, hb⟩
theorem append_D (n : Nat) (x s : ByteArray) (h : D B w p S) (hf : S.Fits n) (hn : n < big) (hxs : x.size ≤ 9223372036854775807) (hss : s.size ≤ 140737488355328) :
    Calls Try.prog 10 #[.pointer (some ⟨p, 0, none⟩), .string x, .string s] w fun e w' => e = .returned (.int .i64 (appendS S x s).2) ∧ D B w' p (appendS S x s).1 ∧ Below B w w' := by
  obtain ⟨F, h1, h2, h3⟩ := h
  refine (append_any p F S x s w n h1 hf hn hxs hss).mono ?_; rintro e w' ⟨rfl, hd, ho⟩
  exact ⟨rfl, D.next h2 h3 hd ho⟩
theorem sync_D (n : Nat) (x : ByteArray) (h : D B w p S) (hf : S.Fits n) (hn : n < big) :
    Calls Try.prog 11 #[.pointer (some ⟨p, 0, none⟩), .string x] w fun e w' => e = .returned (.int .i64 (syncS S x).2) ∧ D B w' p (syncS S x).1 ∧ Below B w w' := by
  obtain ⟨F, h1, h2, h3⟩ := h
  refine (sync_any p F S x w n h1 hf hn).mono ?_; rintro e w' ⟨rfl, hd, ho⟩
  exact ⟨rfl, D.next h2 h3 hd ho⟩
theorem cut_D (n : Nat) (x : ByteArray) (k : Int) (h : D B w p S) (hf : S.Fits n) (hn : n < big) (hk1 : -9223372036854775808 ≤ k) (hk2 : k ≤ 9223372036854775807) :
    Calls Try.prog 19 #[.pointer (some ⟨p, 0, none⟩), .string x, .int .i64 k] w fun e w' => e = .returned (.int .i64 (cutS S x k).2) ∧ D B w' p (cutS S x k).1 ∧ Below B w w' := by
  obtain ⟨F, h1, h2, h3⟩ := h
  refine (cut_any p F S x k w n h1 hf hn hk1 hk2).mono ?_; rintro e w' ⟨rfl, hd, ho⟩
  exact ⟨rfl, D.next h2 h3 hd ho⟩
theorem swap_D (n : Nat) (x to : ByteArray) (h : D B w p S) (hf : S.Fits n) (hn : n < big) (hto : to.size ≤ 9223372036854775807) :
    Calls Try.prog 20 #[.pointer (some ⟨p, 0, none⟩), .string x, .string to] w fun e w' => e = .returned (.int .i64 (swapS S x to).2) ∧ D B w' p (swapS S x to).1 ∧ Below B w w' := by
  obtain ⟨F, h1, h2, h3⟩ := h
  refine (swap_any p F S x to w n h1 hf hn hto).mono ?_; rintro e w' ⟨rfl, hd, ho⟩
  exact ⟨rfl, D.next h2 h3 hd ho⟩
theorem drop_D (n : Nat) (x : ByteArray) (h : D B w p S) (hf : S.Fits n) (hn : n < big) :
    Calls Try.prog 17 #[.pointer (some ⟨p, 0, none⟩), .string x] w fun e w' => e = .returned (.int .i64 (dropS S x).2) ∧ D B w' p (dropS S x).1 ∧ Below B w w' := by
  obtain ⟨F, h1, h2, h3⟩ := h
  refine (drop_any p F S x w n h1 hf hn).mono ?_; rintro e w' ⟨rfl, hd, ho⟩
  exact ⟨rfl, D.next h2 h3 hd ho⟩
theorem off_D (n : Nat) (h : D B w p S) (hf : S.Fits n) (hn : n < big) :
    Calls Try.prog 13 #[.pointer (some ⟨p, 0, none⟩)] w fun e w' => e = .returned (.tuple #[]) ∧ D B w' p (offS S) ∧ Below B w w' := by
  obtain ⟨F, h1, h2, h3⟩ := h
  refine (doff_any (n := n) (h := h1) (hf := hf) (hn := hn)).mono ?_; rintro e w' ⟨rfl, hd, ho⟩
  exact ⟨rfl, D.next h2 h3 hd ho⟩
theorem arm_D (k : Int) (hk : k ≤ 9223372036854775807) (h : D B w p S) :
    Calls Try.prog 16 #[.pointer (some ⟨p, 0, none⟩), .int .i64 k] w fun e w' => e = .returned (.tuple #[]) ∧ D B w' p (armS S k) ∧ Below B w w' := by
  obtain ⟨F, h1, h2, h3⟩ := h
  refine (darm_any (n := k) (hn := hk) (h := h1)).mono ?_; rintro e w' ⟨rfl, hd, ho⟩
  exact ⟨rfl, D.next h2 h3 hd ho⟩
theorem room_D (k : Int) (h : D B w p S) :
    Calls Try.prog 36 #[.pointer (some ⟨p, 0, none⟩), .int .i64 k] w fun e w' => e = .returned (.tuple #[]) ∧ D B w' p (roomS S k) ∧ Below B w w' := by
  obtain ⟨F, h1, h2, h3⟩ := h
  refine (droom_any (n := k) (h := h1)).mono ?_; rintro e w' ⟨rfl, hd, ho⟩
  exact ⟨rfl, D.next h2 h3 hd ho⟩
/-- the fates lie below B, or were made after the disk was touched last -/
theorem on_D (a : Option Addr) (n c : Nat) (fs : List Int) (w2 : World) (h : D B w p S) (hb : Below w.heap.size w w2) (hI : IntsAt w2 a n fs) (ha : n ≠ 0 → ∀ b off, a = some ⟨b, off, none⟩ → b < B ∨ w.heap.size ≤ b) :
    Calls Try.prog 14 #[.pointer (some ⟨p, 0, none⟩), .slice a n c] w2 fun e w' => e = .returned (.tuple #[]) ∧ D B w' p (onS S fs) ∧ Below B w2 w' := by
  obtain ⟨F, h1, h2, h3⟩ := h
  refine (on_any p F S a n c fs w2 (h1.below hb) hI (fun hn b off e hF => ?_)).mono ?_
  · have := h1.1 b hF; have := h2 b hF; rcases ha hn b off e with h | h <;> omega
  rintro e w' ⟨rfl, hd, ho⟩
  exact ⟨rfl, D.next h2 (Nat.le_trans h3 hb.size) hd ho⟩
theorem read_D (x : ByteArray) (h : D B w p S) :
    Calls Try.prog 15 #[.pointer (some ⟨p, 0, none⟩), .string x] w fun e w' => e = .returned (.tuple #[.string ⟨(readS S x).1.toArray⟩, .int .i64 (readS S x).2]) ∧ w = w' := by
  obtain ⟨F, h1, h2, h3⟩ := h; exact read_any p F S x w h1
theorem size_D (x : ByteArray) (h : D B w p S) :
    Calls Try.prog 12 #[.pointer (some ⟨p, 0, none⟩), .string x] w fun e w' => e = .returned (.int .i64 (sizeS S x)) ∧ w = w' := by
  obtain ⟨F, h1, h2, h3⟩ := h; exact size_any p F S x w h1
theorem names_D (h : D B w p S) :
    Calls Try.prog 32 #[.pointer (some ⟨p, 0, none⟩)] w fun e w' => ∃ v, e = .returned v ∧ w'.ownsRow w.heap.size 9 1 v S.l.length (svals S.l) ∧ Below w.heap.size w w' := by
  obtain ⟨F, h1, h2, h3⟩ := h; exact names_any p F S w h1
theorem down_D (h : D B w p S) : Calls Try.prog 18 #[.pointer (some ⟨p, 0, none⟩)] w fun e w' => e = .returned (.bool S.down) ∧ w = w' := by
  obtain ⟨F, h1, h2, h3⟩ := h; exact isdown_any (h := h1)
theorem acts_D (h : D B w p S) : Calls Try.prog 25 #[.pointer (some ⟨p, 0, none⟩)] w fun e w' => e = .returned (.int .i64 S.acts) ∧ w = w' := by
  obtain ⟨F, h1, h2, h3⟩ := h; exact nacts_any (h := h1)
theorem life_D (h : D B w p S) : Calls Try.prog 27 #[.pointer (some ⟨p, 0, none⟩)] w fun e w' => e = .returned (.int .i64 S.life) ∧ w = w' := by
  obtain ⟨F, h1, h2, h3⟩ := h; exact nlife_any (h := h1)
end
theorem ints_one (w : World) (x : Int) (h1 : -9223372036854775808 ≤ x) (h2 : x ≤ 9223372036854775807) : IntsAt (w.alloc (.cells #[.int .i64 x] 3)) (some ⟨w.heap.size, 0, none⟩) 1 [x] := by
  refine ⟨rfl, by omega, by intro y hy; simp at hy; subst hy; exact ⟨h1, h2⟩, .inr ⟨_, _, rfl, ?_⟩⟩
  intro j hj
  obtain rfl : j = 0 := by omega
  exact (Blk.new w 3 #[.int .i64 x]).cell 0
theorem ints_nil (w : World) : IntsAt w none 0 [] := ⟨rfl, by omega, by intro y hy; simp at hy, .inl rfl⟩

/-! the law's own test -/
def wa : ByteArray := ⟨#[97]⟩
def a0 : St := Reel.new 100
def a1 : St := (appendS a0 ⟨#[97]⟩ ⟨#[120, 121]⟩).1
def a2 : St := (syncS a1 ⟨#[97]⟩).1
def a3 : St := (appendS a2 ⟨#[97]⟩ ⟨#[122, 33]⟩).1
def a4 : St := offS a3
def a5 : St := onS a4 [-1]
theorem ae1 : (appendS a0 ⟨#[97]⟩ ⟨#[120, 121]⟩).2 = 0 := by decide +kernel
theorem ae2 : (syncS a1 ⟨#[97]⟩).2 = 0 := by decide +kernel
theorem ae3 : (appendS a2 ⟨#[97]⟩ ⟨#[122, 33]⟩).2 = 0 := by decide +kernel
theorem ae4 : readS a4 ⟨#[97]⟩ = ([], 10) := by decide +kernel
theorem ae5 : readS a5 ⟨#[97]⟩ = ([120, 121, 47], 0) := by decide +kernel
theorem ae6 : a5.acts = 3 ∧ a5.life = 1 ∧ sizeS a5 ⟨#[97]⟩ = 3 ∧ sizeS a5 ⟨#[98]⟩ = -1 ∧ a5.l.length = 1 := by decide +kernel
theorem af0 : a0.Fits 4 := by unfold St.Fits; decide +kernel
theorem af1 : a1.Fits 4 := by unfold St.Fits; decide +kernel
theorem af2 : a2.Fits 4 := by unfold St.Fits; decide +kernel
theorem af3 : a3.Fits 4 := by unfold St.Fits; decide +kernel
set_option maxHeartbeats 8000000 in
theorem awake_any (w : World) : Calls Try.prog 8 #[] w fun e w' => e = .returned (.bool true) ∧ Below w.heap.size w w' := by
  obtain ⟨B, hB⟩ : ∃ B, w.heap.size = B := ⟨_, rfl⟩
  have HBW := hid hB
  rw [hB]; clear hB
  go_enter Try.func8, Try.ntmps8
  go_wp2_with fail
  refine (new_D (B := B) 100 (Nat.le_of_eq HBW.out.symm)).mono ?_; rintro e w1 ⟨p, rfl, d0, b1⟩
  have b1 : Below B w w1 := by rw [HBW.out] at b1; exact b1
  have D0 : Hid (D B w1 p a0) := d0
  clear d0
  go_wp2_with fail
  refine (append_D 4 _ _ D0.out af0 (by decide) (by decide) (by decide)).mono ?_; rintro e w2 ⟨rfl, d1, b2⟩
  rw [ae1]
  have D1 : Hid (D B w2 p a1) := d1
  have b2 := b1.trans b2
  clear d1 b1 D0
  go_wp2_with fail
  refine (sync_D 4 _ D1.out af1 (by decide)).mono ?_; rintro e w3 ⟨rfl, d2, b3⟩
  rw [ae2]
  have D2 : Hid (D B w3 p a2) := d2
  have b3 := b2.trans b3
  clear d2 b2 D1
  go_wp2_with fail
  refine (append_D 4 _ _ D2.out af2 (by decide) (by decide) (by decide)).mono ?_; rintro e w4 ⟨rfl, d3, b4⟩
  rw [ae3]
  have D3 : Hid (D B w4 p a3) := d3
  have b4 := b3.trans b4
  clear d3 b3 D2
  go_wp2_with fail
  refine (off_D 4 D3.out af3 (by decide)).mono ?_; rintro e w5 ⟨rfl, d4, b5⟩
  have D4 : Hid (D B w5 p a4) := d4
  have b5 := b4.trans b5
  clear d4 b4 D3
  go_wp2_with fail
  refine (read_D _ D4.out).mono ?_; rintro e w6 ⟨rfl, rfl⟩
  rw [ae4]
  go_wp2_with fail
  have hbA : Below w5.heap.size w5 (w5.alloc (.cells #[.int .i64 (-1)] 3)) := (Below.refl _ _).alloc (Nat.le_refl _) _
  have hbB : Below B w5 (w5.alloc (.cells #[.int .i64 (-1)] 3)) := hbA.mono (Nat.le_trans (Nat.le_of_eq HBW.out.symm) b5.size)
  refine (on_D _ 1 1 [-1] _ D4.out hbA (ints_one _ (-1) (by decide) (by decide)) (fun _ b off e => .inr (by cases e; exact Nat.le_refl _))).mono ?_; rintro e w7 ⟨rfl, d5, b6⟩
  have D5 : Hid (D B w7 p a5) := d5
  have b7 := (b5.trans hbB).trans b6
  clear d5 b5 hbA hbB b6 D4
  obtain ⟨x1, x2, x3, x4, x5⟩ := ae6
  go_wp2_with (first
    | (go_at_call 15; refine (read_D _ D5.out).mono ?_; rintro e w8 ⟨rfl, rfl⟩; rw [ae5])
    | (go_at_call 25; refine (acts_D D5.out).mono ?_; rintro e w8 ⟨rfl, rfl⟩; rw [x1])
    | (go_at_call 27; refine (life_D D5.out).mono ?_; rintro e w8 ⟨rfl, rfl⟩; rw [x2])
    | (go_at_call 12; refine (size_D _ D5.out).mono ?_; rintro e w8 ⟨rfl, rfl⟩; first | rw [x3] | rw [x4]))
  go_at_call 32
  refine (names_D D5.out).mono ?_; rintro e w9 ⟨v, rfl, hv, b8⟩
  rw [x5] at hv
  have b8 := b7.trans (b8.mono (Nat.le_trans (Nat.le_of_eq HBW.out.symm) b7.size))
  obtain ⟨na, nc, rfl, hnc⟩ := own_slice hv
  go_wp2
  go_ret
  exact ⟨rfl, b8⟩
end Go.Proofs.Ythjomknhbfplnaa
