/- The walk of ReelSafe. -/
import Derived.Test.YthjomknhbfplnaaReelW
import Derived.Test.YthjomknhbfplnaaReelP
namespace Go.Proofs.Ythjomknhbfplnaa
open Go.RowKit Reel
set_option linter.unusedVariables false

/-- a disk, and what a law sees of it -/
def DV (B : Nat) (w : World) (p : Nat) (d : Bool) (m n k u : Nat) (f : ByteArray → Option Spool) : Prop := ∃ S, D B w p S ∧ View S d m n k u f
section
variable {B p : Nat} {w : World} {d : Bool} {m n k u : Nat} {f : ByteArray → Option Spool} {x : ByteArray} {t : Spool}
theorem DV.mono {n' k' u' : Nat} (h : DV B w p d m n k u f) (hn : n ≤ n') (hk : k ≤ k') (hu : u ≤ u') : DV B w p d m n' k' u' f := by
  obtain ⟨S, h1, h2⟩ := h; exact ⟨S, h1, h2.mono hn hk hu⟩
theorem new_V (hB : B ≤ w.heap.size) : Calls Try.prog 9 #[.int .i64 67108864] w fun e w' => ∃ p, e = .returned (.pointer (some ⟨p, 0, none⟩)) ∧ DV B w' p false 0 0 0 0 (fun _ => none) ∧ Below w.heap.size w w' := by
  refine (new_D 67108864 hB).mono ?_; rintro e w' ⟨p, rfl, h1, h2⟩
  exact ⟨p, rfl, ⟨_, h1, view_new⟩, h2⟩
theorem append_V (h : DV B w p false 0 n k u f) (hn : n < big) (hxs : x.size ≤ 9223372036854775807) (s : ByteArray) (hx : isName x = true) (hf : f x = none) (hu : u + s.size ≤ 67108864) (hk : k < 64) (hs : s.size ≤ 4194304) :
    Calls Try.prog 10 #[.pointer (some ⟨p, 0, none⟩), .string x, .string s] w fun e w' => e = .returned (.int .i64 0) ∧ DV B w' p false 0 (n + 1) (k + 1) (u + s.size) (upd f x (some ⟨s.data.toList, 0⟩)) ∧ Below B w w' := by
  obtain ⟨S, h1, h2⟩ := h
  obtain ⟨h3, h4⟩ := view_append h2 s hx hu hk (fun t ht => by rw [hf] at ht; cases ht) hs
  simp only [hf] at h4
  refine (append_D n x s h1 h2.fits hn hxs (by omega)).mono ?_; rintro e w' ⟨rfl, h5, h6⟩
  rw [h3]
  exact ⟨rfl, ⟨_, h5, h4⟩, h6⟩
theorem sync_V (h : DV B w p false 0 n k u f) (hn : n < big) (hf : f x = some t) :
    Calls Try.prog 11 #[.pointer (some ⟨p, 0, none⟩), .string x] w fun e w' => e = .returned (.int .i64 0) ∧ DV B w' p false 0 (n + 1) k u (upd f x (some ⟨t.bytes, t.bytes.length⟩)) ∧ Below B w w' := by
  obtain ⟨S, h1, h2⟩ := h
  obtain ⟨h3, h4⟩ := view_sync h2 hf
  refine (sync_D n x h1 h2.fits hn).mono ?_; rintro e w' ⟨rfl, h5, h6⟩
  rw [h3]
  exact ⟨rfl, ⟨_, h5, h4⟩, h6⟩
theorem arm_V (h : DV B w p d m n k u f) (j : Nat) (hj : j ≤ 9223372036854775807) :
    Calls Try.prog 16 #[.pointer (some ⟨p, 0, none⟩), .int .i64 j] w fun e w' => e = .returned (.tuple #[]) ∧ DV B w' p d j n k u f ∧ Below B w w' := by
  obtain ⟨S, h1, h2⟩ := h
  refine (arm_D j (by omega) h1).mono ?_; rintro e w' ⟨rfl, h5, h6⟩
  exact ⟨rfl, ⟨_, h5, view_arm h2 j hj⟩, h6⟩
theorem appendG_V (h : DV B w p d m n k u f) (hn : n < big) (hxs : x.size ≤ 9223372036854775807) (s : ByteArray) (hx : isName x = true) (hf : f x = some t) (hu : u + s.size ≤ 67108864) (hl : t.bytes.length + s.size ≤ 4194304) :
    Calls Try.prog 10 #[.pointer (some ⟨p, 0, none⟩), .string x, .string s] w fun e w' => ∃ d' m', e = .returned (.int .i64 (if d' = true then 10 else 0)) ∧ (d = true → d' = true) ∧ DV B w' p d' m' (n + 1) k (u + s.size) (if d = true then f else upd f x (some ⟨t.bytes ++ s.data.toList, t.safe⟩)) ∧ Below B w w' := by
  obtain ⟨S, h1, h2⟩ := h
  refine (append_D n x s h1 h2.fits hn hxs (by omega)).mono ?_; rintro e w' ⟨rfl, h5, h6⟩
  cases d
  · obtain ⟨d', m', h3, h4⟩ := view_appendG h2 hf s hu hl hx
    exact ⟨d', m', by rw [h3], (fun e => by cases e), ⟨_, h5, h4⟩, h6⟩
  · rw [view_appendD h2] at h5 ⊢
    exact ⟨true, m, rfl, fun e => rfl, ⟨_, h5, h2.mono (by omega) (by omega) (by omega)⟩, h6⟩
theorem syncG_V (h : DV B w p d m n k u f) (hn : n < big) (hf : f x = some t) :
    Calls Try.prog 11 #[.pointer (some ⟨p, 0, none⟩), .string x] w fun e w' => ∃ d' m', e = .returned (.int .i64 (if d' = true then 10 else 0)) ∧ DV B w' p d' m' (n + 1) k u (if d' = true then f else upd f x (some ⟨t.bytes, t.bytes.length⟩)) ∧ Below B w w' := by
  obtain ⟨S, h1, h2⟩ := h
  refine (sync_D n x h1 h2.fits hn).mono ?_; rintro e w' ⟨rfl, h5, h6⟩
  cases d
  · obtain ⟨d', m', h3, h4⟩ := view_syncG h2 hf
    exact ⟨d', m', by rw [h3], ⟨_, h5, h4⟩, h6⟩
  · rw [view_syncD h2] at h5 ⊢
    exact ⟨true, m, rfl, ⟨_, h5, h2.mono (by omega) (by omega) (by omega)⟩, h6⟩
theorem off_V (h : DV B w p d m n k u f) (hn : n < big) :
    Calls Try.prog 13 #[.pointer (some ⟨p, 0, none⟩)] w fun e w' => e = .returned (.tuple #[]) ∧ (∃ m', DV B w' p true m' (n + 1) k u f) ∧ Below B w w' := by
  obtain ⟨S, h1, h2⟩ := h
  refine (off_D n h1 h2.fits hn).mono ?_; rintro e w' ⟨rfl, h5, h6⟩
  exact ⟨rfl, ⟨_, _, h5, view_off h2⟩, h6⟩
theorem on_V (a : Option Addr) (l c : Nat) (fs : List Int) (w2 : World) (h : DV B w p true m n k u f) (hb : Below w.heap.size w w2) (hI : IntsAt w2 a l fs) (ha : l ≠ 0 → ∀ b off, a = some ⟨b, off, none⟩ → b < B ∨ w.heap.size ≤ b) :
    Calls Try.prog 14 #[.pointer (some ⟨p, 0, none⟩), .slice a l c] w2 fun e w' => e = .returned (.tuple #[]) ∧ (∃ g, DV B w' p false m n k u g ∧ (∀ x, f x = none → g x = none) ∧ (∀ x t, f x = some t → ∃ t', g x = some t' ∧ (t.bytes.length = t.safe → t' = t) ∧ (t.bytes.length ≠ t.safe → ∃ c, t' = left t c))) ∧ Below B w2 w' := by
  obtain ⟨S, h1, h2⟩ := h
  refine (on_D a l c fs w2 h1 hb hI ha).mono ?_; rintro e w' ⟨rfl, h5, h6⟩
  obtain ⟨g, h7, h8⟩ := view_on h2 fs
  exact ⟨rfl, ⟨g, ⟨_, h5, h7⟩, h8⟩, h6⟩
theorem read_V (h : DV B w p false m n k u f) (hf : f x = some t) :
    Calls Try.prog 15 #[.pointer (some ⟨p, 0, none⟩), .string x] w fun e w' => e = .returned (.tuple #[.string ⟨t.bytes.toArray⟩, .int .i64 0]) ∧ w = w' := by
  obtain ⟨S, h1, h2⟩ := h
  refine (read_D x h1).mono ?_; rintro e w' ⟨rfl, h5⟩
  rw [view_read h2, hf]; exact ⟨rfl, h5⟩
theorem size_V (h : DV B w p d m n k u f) (hf : f x = some t) :
    Calls Try.prog 12 #[.pointer (some ⟨p, 0, none⟩), .string x] w fun e w' => e = .returned (.int .i64 t.bytes.length) ∧ w = w' := by
  obtain ⟨S, h1, h2⟩ := h
  refine (size_D x h1).mono ?_; rintro e w' ⟨rfl, h5⟩
  rw [view_size h2, hf]; exact ⟨rfl, h5⟩
theorem down_V (h : DV B w p d m n k u f) :
    Calls Try.prog 18 #[.pointer (some ⟨p, 0, none⟩)] w fun e w' => e = .returned (.bool d) ∧ w = w' := by
  obtain ⟨S, h1, h2⟩ := h
  refine (down_D h1).mono ?_; rintro e w' ⟨rfl, h5⟩
  rw [h2.down]; exact ⟨rfl, h5⟩
theorem dropD_V (h : DV B w p true m n k u f) (hn : n < big) :
    Calls Try.prog 17 #[.pointer (some ⟨p, 0, none⟩), .string x] w fun e w' => e = .returned (.int .i64 10) ∧ DV B w' p true m n k u f ∧ Below B w w' := by
  obtain ⟨S, h1, h2⟩ := h
  refine (drop_D n x h1 h2.fits hn).mono ?_; rintro e w' ⟨rfl, h5, h6⟩
  rw [view_dropD h2] at h5 ⊢
  exact ⟨rfl, ⟨_, h5, h2⟩, h6⟩
end

namespace Reel
theorem ba_size (l : List UInt8) : (⟨l.toArray⟩ : ByteArray).size = l.length := by show l.toArray.size = _; simp
/-- what the law asks of what is left -/
theorem safe_left {A : ByteArray} {sf : Nat} (h : sf ≤ A.size) {t' : Spool} (h1 : (⟨A.data.toList, sf⟩ : Spool).bytes.length = (⟨A.data.toList, sf⟩ : Spool).safe → t' = ⟨A.data.toList, sf⟩) (h2 : (⟨A.data.toList, sf⟩ : Spool).bytes.length ≠ (⟨A.data.toList, sf⟩ : Spool).safe → ∃ c, t' = left ⟨A.data.toList, sf⟩ c) :
    ∃ T : ByteArray, t' = fl T ∧ sf ≤ T.size ∧ T.size ≤ A.size ∧ T.extract 0 sf = A.extract 0 sf ∧ (sf < T.size → T.extract 0 (T.size - 1) = A.extract 0 (T.size - 1)) := by
  have hal : A.data.toList.length = A.size := by rw [Array.length_toList]; rfl
  by_cases he : A.data.toList.length = sf
  · obtain rfl := h1 he
    refine ⟨A, ?_, h, Nat.le_refl _, rfl, fun _ => rfl⟩
    unfold fl; rw [he]
  · obtain ⟨c, rfl⟩ := h2 he
    obtain ⟨g1, g2, g3, g4, g5⟩ := left_spec ⟨A.data.toList, sf⟩ c (by show sf ≤ A.data.toList.length; omega)
    refine ⟨⟨(left ⟨A.data.toList, sf⟩ c).bytes.toArray⟩, ?_, ?_, ?_, ?_, ?_⟩
    · show left _ c = ⟨(left _ c).bytes.toArray.toList, (left _ c).bytes.toArray.toList.length⟩
      rw [List.toList_toArray, ← g3]
    · rw [ba_size]; exact g1
    · rw [ba_size, ← hal]; exact g2
    · rw [← ba_take, ← ba_take, List.toList_toArray]
      have g4' : (left ⟨A.data.toList, sf⟩ c).bytes.take sf = A.data.toList.take sf := g4
      rw [g4']
    · intro hlt
      rw [ba_size] at hlt ⊢
      rw [← ba_take, ← ba_take, List.toList_toArray]
      have g5' := g5 hlt
      rw [g5']
end Reel
theorem DV.drewN {B p : Nat} {w : World} {d : Bool} {m n k u : Nat} {f : ByteArray → Option Spool} (h : DV B w p d m n k u f) (q : Nat) : DV B (w.drewN q) p d m n k u f := by
  obtain ⟨S, ⟨F, h1, h2, h3⟩, h4⟩ := h
  exact ⟨S, ⟨F, h1.only ((Only.refl NoF w).drewN q) (fun _ _ e => e), h2, h3⟩, h4⟩
theorem off2_V {B p : Nat} {w : World} {d : Bool} {m n k u : Nat} {f : ByteArray → Option Spool} (h : DV B w p d m n k u f) (hn : n < big) :
    Calls Try.prog 13 #[.pointer (some ⟨p, 0, none⟩)] w fun e w' => ∃ m', e = .returned (.tuple #[]) ∧ DV B w' p true m' (n + 1) k u f ∧ Below B w w' := by
  refine (off_V h hn).mono ?_; rintro e w' ⟨rfl, ⟨m', h1⟩, h2⟩; exact ⟨m', rfl, h1, h2⟩

set_option maxRecDepth 100000 in
set_option maxHeartbeats 3000000 in
theorem walk_ReelSafe (a : Option Addr) (n c : Nat) (l : List ByteArray) (y z : Int) (a2 : Option Addr) (n2 c2 : Nat) (fs : List Int) (w : World) (hs : StrsAt w a n l) (hy : -9223372036854775808 ≤ y ∧ y ≤ 9223372036854775807) (hz : -9223372036854775808 ≤ z ∧ z ≤ 9223372036854775807) (hi : IntsAt w a2 n2 fs) :
    Calls Try.prog 4 #[.slice a n c, .agg #[.int .i64 y, .int .i64 z], .slice a2 n2 c2] w fun e w' => e = .returned (.bool true) ∧ Below w.heap.size w w' := by
  have HS := hid hs; have HI := hid hi
  obtain ⟨at_, hat⟩ : ∃ k : Nat, (IntKind.u64.wrap z).tmod 80 = k := by
    refine ⟨((IntKind.u64.wrap z).tmod 80).toNat, ?_⟩
    have h0 : 0 ≤ IntKind.u64.wrap z := by rw [IntKind.wrap_u64]; omega
    have := Int.tmod_nonneg 80 h0
    omega
  have hat2 : at_ < 80 := by
    have := Int.tmod_lt_of_pos (IntKind.u64.wrap z) (show (0 : Int) < 80 by omega)
    omega
  have e4 : IntKind.u64.wrap (at_ : Int) = at_ := by rw [IntKind.wrap_u64]; omega
  have e5 : IntKind.i64.wrap (at_ : Int) = at_ := by rw [IntKind.wrap_i64]; omega
  obtain ⟨B, hB⟩ : ∃ B, w.heap.size = B := ⟨_, rfl⟩
  have HBW := hid hB
  rw [hB]
  clear hs hi hB
  go_enter Try.func4, Try.ntmps4
  go_wp2_with fail
  refine (awake_any _).mono ?_; rintro e w1 ⟨rfl, b⟩
  have hbA : Below B w (w.alloc (.cells #[.int .i64 y, .int .i64 z] 36)) := by rw [← HBW.out]; exact (Below.refl _ _).alloc (Nat.le_refl _) _
  have r0 : w1.cell? ⟨w.heap.size, 0, none⟩ = some (.int .i64 y) := (Only.of_below b NoF).cell ((Blk.new w 36 #[.int .i64 y, .int .i64 z]).cell 0) (fun e => e)
  have r1 : w1.cell? ⟨w.heap.size, 1, none⟩ = some (.int .i64 z) := (Only.of_below b NoF).cell ((Blk.new w 36 #[.int .i64 y, .int .i64 z]).cell 1) (fun e => e)
  have bel := hbA.trans (b.mono (Nat.le_trans (Nat.le_of_eq HBW.out.symm) hbA.size))
  clear hbA b
  go_wp2_with fail
  refine (new_V (B := B) (by rw [← HBW.out]; exact bel.size)).mono ?_; rintro e w2 ⟨p, rfl, d, b⟩
  replace bel := bel.trans (b.mono (by rw [← HBW.out]; exact bel.size))
  have D0 := hid d
  clear d b r0 r1
  go_wp2_with fail
  refine (append_V D0.out (by decide) (by decide) ⟨#[111]⟩ (by decide) rfl (by decide) (by decide) (by decide)).mono ?_; rintro e w3 ⟨rfl, d, b⟩
  replace bel := bel.trans b
  have D1 := hid d
  clear d b D0
  go_wp2_with fail
  refine (sync_V D1.out (by decide) (upd_self _ _ _)).mono ?_; rintro e w4 ⟨rfl, d, b⟩
  replace bel := bel.trans b
  rw [upd_upd] at d
  have D2 := hid d
  clear d b D1
  go_wp2_with fail
  refine (append_V D2.out (by decide) (by decide) ⟨#[]⟩ (by decide) (upd_other _ _ (by decide)) (by decide) (by decide) (by decide)).mono ?_; rintro e w5 ⟨rfl, d, b⟩
  replace bel := bel.trans b
  have D3 := hid d
  clear d b D2
  go_wp2_with fail
  refine (sync_V D3.out (by decide) (upd_self _ _ _)).mono ?_; rintro e w6 ⟨rfl, d, b⟩
  replace bel := bel.trans b
  rw [upd_upd] at d
  have D4 := hid d
  clear d b D3
  go_wp2_with fail
  refine (arm_V D4.out at_ (by omega)).mono ?_; rintro e w7 ⟨rfl, d, b⟩
  replace bel := bel.trans b
  have D5 := hid d
  clear d b D4
  go_wp2_with fail
  obtain ⟨q, hq⟩ : ∃ k : Nat, (IntKind.u64.wrap y).tmod 10 = k := by
    refine ⟨((IntKind.u64.wrap y).tmod 10).toNat, ?_⟩
    have h0 : 0 ≤ IntKind.u64.wrap y := by rw [IntKind.wrap_u64]; omega
    have := Int.tmod_nonneg 10 h0
    omega
  have hq2 : q < 10 := by
    have := Int.tmod_lt_of_pos (IntKind.u64.wrap y) (show (0 : Int) < 10 by omega)
    omega
  have e6 : IntKind.u64.wrap (q : Int) = q := by rw [IntKind.wrap_u64]; omega
  have e7 : IntKind.i64.wrap (q : Int) = q := by rw [IntKind.wrap_i64]; omega
  clear hat hat2 e4 e5 hy hz
  go_loopw [10, 11, 12] (fun av sv iv wr => ∃ (j : Nat) (d : Bool) (m : Nat) (A : ByteArray) (sf : Nat) (f : ByteArray → Option Spool), j ≤ 60 ∧ j ≤ n ∧ av = .string A ∧ sv = .int .i64 sf ∧ iv = .int .i64 j ∧ Hid (DV B wr p d m (4 + 2 * j) 2 (1 + 4096 * j) f) ∧ Hid (f ⟨#[97]⟩ = some ⟨A.data.toList, sf⟩) ∧ Hid (f ⟨#[111, 116, 104, 101, 114]⟩ = some (fl ⟨#[111]⟩)) ∧ A.size ≤ 4096 * j ∧ sf ≤ A.size ∧ Below B w wr) (fun _ _ i _ => 60 - (intOf i).toNat)
  case atStart => exact ⟨0, false, _, ⟨#[]⟩, 0, _, by omega, by omega, rfl, rfl, rfl, D5.out.mono (by decide) (by decide) (by decide), upd_self _ _ _, (upd_other _ _ (by decide)).trans (upd_self _ _ _), by decide, by decide, bel⟩
  case round =>
    clear bel D5
    obtain ⟨j, d, m, A, sf, f, hj60, hjn, rfl, rfl, rfl, DX, FA, FO, hA, hsA, bel⟩ := hrel
    by_cases hgo : j < n ∧ j < 60
    · obtain ⟨hj, hj6⟩ := hgo
      have cj1 : (j : Int) < n := by omega
      have cj2 : (j : Int) < 60 := by omega
      obtain ⟨ab, aoff, rfl, hab, hac⟩ := strs_get HS.out hj
      obtain ⟨x, hx⟩ : ∃ x, l.getD j ByteArray.empty = x := ⟨_, rfl⟩
      rw [hx] at hac
      have hcell : wr.cell? ⟨ab, aoff + j, none⟩ = some (.string x) := (World.cell?_of_block (bel.block ab (by have := HBW.out; omega))).trans hac
      have HAC := hid hac
      clear hx hac
      by_cases hx4 : x.size ≤ 4096
      · have g1 : ¬ (4096 : Int) < x.size := by omega
        have HX := hid hx4
        go_wp2_with fail
        refine (appendG_V DX.out (by unfold big; omega) (by decide) x (by decide) FA.out (by omega) (by show A.data.toList.length + _ ≤ _; rw [Array.length_toList]; show A.size + x.size ≤ _; omega)).mono ?_; rintro e v1 ⟨d2, m2, rfl, hd2, d1, b1⟩
        replace bel := bel.trans b1
        have hcell1 : v1.cell? ⟨ab, aoff + j, none⟩ = some (.string x) := (World.cell?_of_block (bel.block ab (by have := HBW.out; omega))).trans HAC.out
        clear hcell
        have hal : (A ++ x).size = A.size + x.size := ByteArray.size_append
        have hw : IntKind.i64.wrap ((A.size : Int) + x.size) = (A.size : Int) + x.size := by rw [IntKind.wrap_i64]; omega
        have hw0 : IntKind.i64.wrap (A.size : Int) = (A.size : Int) := by rw [IntKind.wrap_i64]; omega
        have hcat1 : ¬ 9223372036854775807 < A.size + x.size := by omega
        have hcat0 : ¬ 9223372036854775807 < A.size := by omega
        cases d
        · have FA1 : Hid (upd f ⟨#[97]⟩ (some ⟨A.data.toList ++ x.data.toList, sf⟩) ⟨#[97]⟩ = some ⟨(A ++ x).data.toList, sf⟩) := by unfold Hid; rw [upd_self, app_list]
          have FO1 : Hid (upd f ⟨#[97]⟩ (some ⟨A.data.toList ++ x.data.toList, sf⟩) ⟨#[111, 116, 104, 101, 114]⟩ = some (fl ⟨#[111]⟩)) := (upd_other _ _ (by decide)).trans FO.out
          have D1 : Hid (DV B v1 p d2 m2 (4 + 2 * j + 1) 2 (1 + 4096 * j + x.size) (upd f ⟨#[97]⟩ (some ⟨A.data.toList ++ x.data.toList, sf⟩))) := d1
          generalize upd f ⟨#[97]⟩ (some ⟨A.data.toList ++ x.data.toList, sf⟩) = fx at D1 FA1 FO1
          clear d1 b1 DX FA FO hd2
          have HAL := hid hal
          cases d2
          · rw [if_neg (by decide)]
            clear hal
            go_wp2_with fail
            go_quiet (fail)
            replace bel := below_drewN bel nq
            have D1 := hid (D1.out.drewN nq)
            by_cases hjq : j = q
            · subst hjq
              go_wp2_with fail
              refine (syncG_V D1.out (by unfold big; omega) FA1.out).mono ?_; rintro e v2 ⟨d3, m3, rfl, d1, b1⟩
              replace bel := bel.trans b1
              cases d3
              · rw [if_neg (by decide)]
                rw [if_neg (by decide)] at d1
                go_wp2_with fail
                go_roundw
                case rel => exact ⟨j + 1, false, m3, A ++ x, (A ++ x).size, _, by omega, by omega, rfl, by first | rfl | (rw [HAL.out]; go_num), by go_num, d1.mono (by omega) (by omega) (by omega), (upd_self _ _ _).trans (by simp [Array.length_toList]), (upd_other _ _ (by decide)).trans FO1.out, by rw [HAL.out]; omega, by omega, bel⟩
                case measure => simp [intOf]; omega
              · rw [if_pos rfl]
                rw [if_pos rfl] at d1
                go_wp2_with fail
                go_roundw
                case rel => exact ⟨j + 1, true, m3, A ++ x, sf, _, by omega, by omega, rfl, rfl, by go_num, d1.mono (by omega) (by omega) (by omega), FA1.out, FO1.out, by rw [HAL.out]; omega, by rw [HAL.out]; omega, bel⟩
                case measure => simp [intOf]; omega
            · have cq : ¬ (j : Int) = q := by omega
              clear hjq
              go_wp2_with fail
              go_roundw
              case rel => exact ⟨j + 1, false, m2, A ++ x, sf, _, by omega, by omega, rfl, rfl, by go_num, D1.out.mono (by omega) (by omega) (by omega), FA1.out, FO1.out, by rw [HAL.out]; omega, by rw [HAL.out]; omega, bel⟩
              case measure => simp [intOf]; omega
          · rw [if_pos rfl]
            have CS : ∀ q, Calls Try.prog 12 #[.pointer (some ⟨p, 0, none⟩), .string ⟨#[97]⟩] (v1.drewN q) fun e w' => e = .returned (.int .i64 ((A.size : Int) + x.size)) ∧ v1.drewN q = w' := fun q => by
              have := size_V (D1.out.drewN q) FA1.out
              rwa [show (((⟨(A ++ x).data.toList, sf⟩ : Spool).bytes.length : Nat) : Int) = ((A.size : Int) + x.size) from by show ((A ++ x).data.toList.length : Int) = _; rw [Array.length_toList]; show ((A ++ x).size : Int) = _; rw [HAL.out]; omega] at this
            have CS := hid CS
            go_wp2_with fail
            go_quiet ((go_at_call 12; exact Calls.quiet_of_same ((CS.out _).mono (fun _ _ h => ⟨h.1, h.2.symm⟩))))
            replace bel := below_drewN bel nq
            have D1 := hid (D1.out.drewN nq)
            have DX := hid (D1.out.mono (n' := 200) (k' := 2) (u' := 300000) (by omega) (by omega) (by omega))
            have hA6 : (A ++ x).size ≤ 245760 := by omega
            have hsA : sf ≤ (A ++ x).size := by omega
            have FA := hid FA1.out; have FO := hid FO1.out
            clear D1 FA1 FO1 hA hj60 hjn hj hal
            go_wp2_with fail
            generalize hAX : A ++ x = AX at FA hA6 hsA ⊢
            clear hAX
            refine (off2_V DX.out (by decide)).mono ?_; rintro e x1 ⟨m1, rfl, d1, b1⟩
            replace bel := bel.trans b1
            have D1 := hid d1; clear d1 b1 DX
            go_wp2_with fail
            refine (appendG_V D1.out (by decide) (by decide) ⟨#[120]⟩ (by decide) FA.out (by decide) (by show (AX.data.toList).length + _ ≤ _; rw [Array.length_toList]; show AX.size + 1 ≤ _; omega)).mono ?_; rintro e x2 ⟨d2, m2, rfl, hd2, d1, b1⟩
            obtain rfl := hd2 rfl
            replace bel := bel.trans b1
            have D2 := hid d1; clear d1 b1 D1 hd2
            rw [if_pos rfl]
            rw [if_pos rfl] at D2
            go_wp2_with fail
            refine (dropD_V D2.out (by decide)).mono ?_; rintro e x3 ⟨rfl, d1, b1⟩
            replace bel := bel.trans b1
            have D3 := hid d1; clear d1 b1 D2
            go_wp2_with fail
            refine (down_V D3.out).mono ?_; rintro e x4 ⟨rfl, rfl⟩
            go_wp2_with fail
            refine (on_V a2 n2 c2 fs _ D3.out (Below.refl _ _) (ints_later HI.out (bel.mono (Nat.le_of_eq HBW.out))) (fun hn b off e => .inl (by rw [← HBW.out]; exact ints_lt HI.out hn b off e))).mono ?_; rintro e x5 ⟨rfl, ⟨g, d1, -, g2⟩, b1⟩
            replace bel := bel.trans b1
            have D4 := hid d1; clear d1 b1 D3
            obtain ⟨t', q1, q2, q3⟩ := g2 _ _ FA.out
            obtain ⟨T, rfl, k1, k2, k3, k4⟩ := safe_left hsA q2 q3
            obtain ⟨t2, q4, q5, -⟩ := g2 _ _ FO.out
            obtain rfl := q5 rfl
            have FA2 := hid q1; have FO2 := hid q4; have K3 := hid k3; have K4 := hid k4
            clear g2 q1 q2 q3 q4 q5 k3 k4 FA FO
            go_wp2_with fail
            refine (read_V D4.out FA2.out).mono ?_; rintro e x6 ⟨rfl, rfl⟩
            rw [show (fl T).bytes = T.data.toList from rfl, ba_back]
            have z1 : (sf : Int) ≤ T.size := by omega
            have z2 : (T.size : Int) ≤ AX.size := by omega
            have z3 : (sf : Int) ≤ AX.size := by omega
            have z4 : ¬ (T.size : Int) < sf := by omega
            have z5 : ¬ (AX.size : Int) < T.size := by omega
            have k3 := K3.out
            by_cases hlt : sf < T.size
            · have z6 : (sf : Int) < T.size := by omega
              have z7 : IntKind.i64.wrap ((T.size : Int) - 1) = ((T.size - 1 : Nat) : Int) := by rw [IntKind.wrap_i64]; omega
              have z8 : ((T.size - 1 : Nat) : Int) ≤ T.size := by omega
              have z9 : ((T.size - 1 : Nat) : Int) ≤ AX.size := by omega
              have k4 := K4.out hlt
              clear K3 K4
              go_wp2_with fail
              go_quiet (fail)
              replace bel := below_drewN bel nq
              have D4 := hid (D4.out.drewN nq)
              obtain ⟨x55, hx55⟩ : ∃ v, v = x5.drewN nq := ⟨_, rfl⟩
              rw [← hx55] at bel D4 ⊢
              clear hx55
              clear z4 z5
              go_wp2_with fail
              go_quiet (fail)
              replace bel := below_drewN bel nq
              have D4 := hid (D4.out.drewN nq)
              clear z1 z2 z3 z6
              go_wp2_with fail
              refine (off2_V D4.out (by decide)).mono ?_; rintro e x7 ⟨m7, rfl, d1, b1⟩
              replace bel := bel.trans b1
              have D5 := hid d1; clear d1 b1 D4
              go_wp2_with fail
              refine (on_V _ 1 1 [1099511627776] _ D5.out ((Below.refl _ _).alloc (Nat.le_refl _) _) (ints_one x7 1099511627776 (by decide) (by decide)) (fun _ b off e => .inr (by cases e; exact Nat.le_refl _))).mono ?_; rintro e x8 ⟨rfl, ⟨g, d1, -, g2⟩, b1⟩
              have bA : Below B x7 (x7.alloc (.cells #[.int .i64 1099511627776] 3)) := ((Below.refl x7.heap.size x7).alloc (Nat.le_refl _) _).mono (Nat.le_trans (Nat.le_of_eq HBW.out.symm) bel.size)
              replace bel := (bel.trans bA).trans b1
              have D6 := hid d1; clear d1 b1 D5 bA
              obtain ⟨t', q1, q2, -⟩ := g2 _ _ FA2.out
              obtain rfl := q2 rfl
              obtain ⟨t2, q4, q5, -⟩ := g2 _ _ FO2.out
              obtain rfl := q5 rfl
              have FA3 := hid q1; have FO3 := hid q4
              clear g2 q1 q2 q4 q5 FA2 FO2
              go_wp2_with fail
              refine (read_V D6.out FA3.out).mono ?_; rintro e x9 ⟨rfl, rfl⟩
              rw [show (fl T).bytes = T.data.toList from rfl, ba_back]
              go_wp2_with fail
              refine (read_V D6.out FO3.out).mono ?_; rintro e x9 ⟨rfl, rfl⟩
              rw [show (fl ⟨#[111]⟩).bytes = (⟨#[111]⟩ : ByteArray).data.toList from rfl, ba_back]
              go_wp2_with fail
              go_ret
              exact ⟨rfl, bel⟩
            · have z6 : ¬ (sf : Int) < T.size := by omega
              clear K3 K4
              go_wp2_with fail
              go_quiet (fail)
              replace bel := below_drewN bel nq
              have D4 := hid (D4.out.drewN nq)
              obtain ⟨x55, hx55⟩ : ∃ v, v = x5.drewN nq := ⟨_, rfl⟩
              rw [← hx55] at bel D4 ⊢
              clear hx55
              clear z4 z5
              go_wp2_with fail
              go_quiet (fail)
              replace bel := below_drewN bel nq
              have D4 := hid (D4.out.drewN nq)
              clear z1 z2 z3 z6
              go_wp2_with fail
              refine (off2_V D4.out (by decide)).mono ?_; rintro e x7 ⟨m7, rfl, d1, b1⟩
              replace bel := bel.trans b1
              have D5 := hid d1; clear d1 b1 D4
              go_wp2_with fail
              refine (on_V _ 1 1 [1099511627776] _ D5.out ((Below.refl _ _).alloc (Nat.le_refl _) _) (ints_one x7 1099511627776 (by decide) (by decide)) (fun _ b off e => .inr (by cases e; exact Nat.le_refl _))).mono ?_; rintro e x8 ⟨rfl, ⟨g, d1, -, g2⟩, b1⟩
              have bA : Below B x7 (x7.alloc (.cells #[.int .i64 1099511627776] 3)) := ((Below.refl x7.heap.size x7).alloc (Nat.le_refl _) _).mono (Nat.le_trans (Nat.le_of_eq HBW.out.symm) bel.size)
              replace bel := (bel.trans bA).trans b1
              have D6 := hid d1; clear d1 b1 D5 bA
              obtain ⟨t', q1, q2, -⟩ := g2 _ _ FA2.out
              obtain rfl := q2 rfl
              obtain ⟨t2, q4, q5, -⟩ := g2 _ _ FO2.out
              obtain rfl := q5 rfl
              have FA3 := hid q1; have FO3 := hid q4
              clear g2 q1 q2 q4 q5 FA2 FO2
              go_wp2_with fail
              refine (read_V D6.out FA3.out).mono ?_; rintro e x9 ⟨rfl, rfl⟩
              rw [show (fl T).bytes = T.data.toList from rfl, ba_back]
              go_wp2_with fail
              refine (read_V D6.out FO3.out).mono ?_; rintro e x9 ⟨rfl, rfl⟩
              rw [show (fl ⟨#[111]⟩).bytes = (⟨#[111]⟩ : ByteArray).data.toList from rfl, ba_back]
              go_wp2_with fail
              go_ret
              exact ⟨rfl, bel⟩
        · obtain rfl := hd2 rfl
          have D1 : Hid (DV B v1 p true m2 (4 + 2 * j + 1) 2 (1 + 4096 * j + x.size) f) := d1
          rw [if_pos rfl]
          have CS : ∀ q, Calls Try.prog 12 #[.pointer (some ⟨p, 0, none⟩), .string ⟨#[97]⟩] (v1.drewN q) fun e w' => e = .returned (.int .i64 (A.size : Int)) ∧ v1.drewN q = w' := fun q => by
            have := size_V (D1.out.drewN q) FA.out
            rwa [show (((⟨A.data.toList, sf⟩ : Spool).bytes.length : Nat) : Int) = (A.size : Int) from by show (A.data.toList.length : Int) = _; rw [Array.length_toList]; rfl] at this
          have CS := hid CS
          go_wp2_with fail
          go_quiet ((go_at_call 12; exact Calls.quiet_of_same ((CS.out _).mono (fun _ _ h => ⟨h.1, h.2.symm⟩))))
          replace bel := below_drewN bel nq
          have D1 := hid (D1.out.drewN nq)
          have DX := hid (D1.out.mono (n' := 200) (k' := 2) (u' := 300000) (by omega) (by omega) (by omega))
          by_cases hx0 : x.size = 0
          · have hA6 : (A ++ x).size ≤ 245760 := by omega
            have hsA : sf ≤ (A ++ x).size := by omega
            have FA : Hid (f ⟨#[97]⟩ = some ⟨(A ++ x).data.toList, sf⟩) := by
              have hx1 : x.data.toList = [] := List.length_eq_zero_iff.1 (by rw [Array.length_toList]; exact hx0)
              unfold Hid; rw [FA.out, app_list, hx1, List.append_nil]
            have cx2 : (x.size : Int) = 0 := by omega
            have FO := hid FO.out
            clear D1 d1 b1 hA hj60 hjn hj hal hd2 hx0
            go_wp2_with fail
            generalize hAX : A ++ x = AX at FA hA6 hsA ⊢
            clear hAX
            refine (off2_V DX.out (by decide)).mono ?_; rintro e x1 ⟨m1, rfl, d1, b1⟩
            replace bel := bel.trans b1
            have D1 := hid d1; clear d1 b1 DX
            go_wp2_with fail
            refine (appendG_V D1.out (by decide) (by decide) ⟨#[120]⟩ (by decide) FA.out (by decide) (by show (AX.data.toList).length + _ ≤ _; rw [Array.length_toList]; show AX.size + 1 ≤ _; omega)).mono ?_; rintro e x2 ⟨d2, m2, rfl, hd2, d1, b1⟩
            obtain rfl := hd2 rfl
            replace bel := bel.trans b1
            have D2 := hid d1; clear d1 b1 D1 hd2
            rw [if_pos rfl]
            rw [if_pos rfl] at D2
            go_wp2_with fail
            refine (dropD_V D2.out (by decide)).mono ?_; rintro e x3 ⟨rfl, d1, b1⟩
            replace bel := bel.trans b1
            have D3 := hid d1; clear d1 b1 D2
            go_wp2_with fail
            refine (down_V D3.out).mono ?_; rintro e x4 ⟨rfl, rfl⟩
            go_wp2_with fail
            refine (on_V a2 n2 c2 fs _ D3.out (Below.refl _ _) (ints_later HI.out (bel.mono (Nat.le_of_eq HBW.out))) (fun hn b off e => .inl (by rw [← HBW.out]; exact ints_lt HI.out hn b off e))).mono ?_; rintro e x5 ⟨rfl, ⟨g, d1, -, g2⟩, b1⟩
            replace bel := bel.trans b1
            have D4 := hid d1; clear d1 b1 D3
            obtain ⟨t', q1, q2, q3⟩ := g2 _ _ FA.out
            obtain ⟨T, rfl, k1, k2, k3, k4⟩ := safe_left hsA q2 q3
            obtain ⟨t2, q4, q5, -⟩ := g2 _ _ FO.out
            obtain rfl := q5 rfl
            have FA2 := hid q1; have FO2 := hid q4; have K3 := hid k3; have K4 := hid k4
            clear g2 q1 q2 q3 q4 q5 k3 k4 FA FO
            go_wp2_with fail
            refine (read_V D4.out FA2.out).mono ?_; rintro e x6 ⟨rfl, rfl⟩
            rw [show (fl T).bytes = T.data.toList from rfl, ba_back]
            have z1 : (sf : Int) ≤ T.size := by omega
            have z2 : (T.size : Int) ≤ AX.size := by omega
            have z3 : (sf : Int) ≤ AX.size := by omega
            have z4 : ¬ (T.size : Int) < sf := by omega
            have z5 : ¬ (AX.size : Int) < T.size := by omega
            have k3 := K3.out
            by_cases hlt : sf < T.size
            · have z6 : (sf : Int) < T.size := by omega
              have z7 : IntKind.i64.wrap ((T.size : Int) - 1) = ((T.size - 1 : Nat) : Int) := by rw [IntKind.wrap_i64]; omega
              have z8 : ((T.size - 1 : Nat) : Int) ≤ T.size := by omega
              have z9 : ((T.size - 1 : Nat) : Int) ≤ AX.size := by omega
              have k4 := K4.out hlt
              clear K3 K4
              go_wp2_with fail
              go_quiet (fail)
              replace bel := below_drewN bel nq
              have D4 := hid (D4.out.drewN nq)
              obtain ⟨x55, hx55⟩ : ∃ v, v = x5.drewN nq := ⟨_, rfl⟩
              rw [← hx55] at bel D4 ⊢
              clear hx55
              clear z4 z5
              go_wp2_with fail
              go_quiet (fail)
              replace bel := below_drewN bel nq
              have D4 := hid (D4.out.drewN nq)
              clear z1 z2 z3 z6
              go_wp2_with fail
              refine (off2_V D4.out (by decide)).mono ?_; rintro e x7 ⟨m7, rfl, d1, b1⟩
              replace bel := bel.trans b1
              have D5 := hid d1; clear d1 b1 D4
              go_wp2_with fail
              refine (on_V _ 1 1 [1099511627776] _ D5.out ((Below.refl _ _).alloc (Nat.le_refl _) _) (ints_one x7 1099511627776 (by decide) (by decide)) (fun _ b off e => .inr (by cases e; exact Nat.le_refl _))).mono ?_; rintro e x8 ⟨rfl, ⟨g, d1, -, g2⟩, b1⟩
              have bA : Below B x7 (x7.alloc (.cells #[.int .i64 1099511627776] 3)) := ((Below.refl x7.heap.size x7).alloc (Nat.le_refl _) _).mono (Nat.le_trans (Nat.le_of_eq HBW.out.symm) bel.size)
              replace bel := (bel.trans bA).trans b1
              have D6 := hid d1; clear d1 b1 D5 bA
              obtain ⟨t', q1, q2, -⟩ := g2 _ _ FA2.out
              obtain rfl := q2 rfl
              obtain ⟨t2, q4, q5, -⟩ := g2 _ _ FO2.out
              obtain rfl := q5 rfl
              have FA3 := hid q1; have FO3 := hid q4
              clear g2 q1 q2 q4 q5 FA2 FO2
              go_wp2_with fail
              refine (read_V D6.out FA3.out).mono ?_; rintro e x9 ⟨rfl, rfl⟩
              rw [show (fl T).bytes = T.data.toList from rfl, ba_back]
              go_wp2_with fail
              refine (read_V D6.out FO3.out).mono ?_; rintro e x9 ⟨rfl, rfl⟩
              rw [show (fl ⟨#[111]⟩).bytes = (⟨#[111]⟩ : ByteArray).data.toList from rfl, ba_back]
              go_wp2_with fail
              go_ret
              exact ⟨rfl, bel⟩
            · have z6 : ¬ (sf : Int) < T.size := by omega
              clear K3 K4
              go_wp2_with fail
              go_quiet (fail)
              replace bel := below_drewN bel nq
              have D4 := hid (D4.out.drewN nq)
              obtain ⟨x55, hx55⟩ : ∃ v, v = x5.drewN nq := ⟨_, rfl⟩
              rw [← hx55] at bel D4 ⊢
              clear hx55
              clear z4 z5
              go_wp2_with fail
              go_quiet (fail)
              replace bel := below_drewN bel nq
              have D4 := hid (D4.out.drewN nq)
              clear z1 z2 z3 z6
              go_wp2_with fail
              refine (off2_V D4.out (by decide)).mono ?_; rintro e x7 ⟨m7, rfl, d1, b1⟩
              replace bel := bel.trans b1
              have D5 := hid d1; clear d1 b1 D4
              go_wp2_with fail
              refine (on_V _ 1 1 [1099511627776] _ D5.out ((Below.refl _ _).alloc (Nat.le_refl _) _) (ints_one x7 1099511627776 (by decide) (by decide)) (fun _ b off e => .inr (by cases e; exact Nat.le_refl _))).mono ?_; rintro e x8 ⟨rfl, ⟨g, d1, -, g2⟩, b1⟩
              have bA : Below B x7 (x7.alloc (.cells #[.int .i64 1099511627776] 3)) := ((Below.refl x7.heap.size x7).alloc (Nat.le_refl _) _).mono (Nat.le_trans (Nat.le_of_eq HBW.out.symm) bel.size)
              replace bel := (bel.trans bA).trans b1
              have D6 := hid d1; clear d1 b1 D5 bA
              obtain ⟨t', q1, q2, -⟩ := g2 _ _ FA2.out
              obtain rfl := q2 rfl
              obtain ⟨t2, q4, q5, -⟩ := g2 _ _ FO2.out
              obtain rfl := q5 rfl
              have FA3 := hid q1; have FO3 := hid q4
              clear g2 q1 q2 q4 q5 FA2 FO2
              go_wp2_with fail
              refine (read_V D6.out FA3.out).mono ?_; rintro e x9 ⟨rfl, rfl⟩
              rw [show (fl T).bytes = T.data.toList from rfl, ba_back]
              go_wp2_with fail
              refine (read_V D6.out FO3.out).mono ?_; rintro e x9 ⟨rfl, rfl⟩
              rw [show (fl ⟨#[111]⟩).bytes = (⟨#[111]⟩ : ByteArray).data.toList from rfl, ba_back]
              go_wp2_with fail
              go_ret
              exact ⟨rfl, bel⟩
          · have cx2 : ¬ (x.size : Int) = 0 := by omega
            have hA6 : A.size ≤ 245760 := by omega
            have FA := hid FA.out; have FO := hid FO.out
            clear D1 d1 b1 hA hj60 hjn hj hal hd2 hx0
            go_wp2_with fail
            refine (off2_V DX.out (by decide)).mono ?_; rintro e x1 ⟨m1, rfl, d1, b1⟩
            replace bel := bel.trans b1
            have D1 := hid d1; clear d1 b1 DX
            go_wp2_with fail
            refine (appendG_V D1.out (by decide) (by decide) ⟨#[120]⟩ (by decide) FA.out (by decide) (by show (A.data.toList).length + _ ≤ _; rw [Array.length_toList]; show A.size + 1 ≤ _; omega)).mono ?_; rintro e x2 ⟨d2, m2, rfl, hd2, d1, b1⟩
            obtain rfl := hd2 rfl
            replace bel := bel.trans b1
            have D2 := hid d1; clear d1 b1 D1 hd2
            rw [if_pos rfl]
            rw [if_pos rfl] at D2
            go_wp2_with fail
            refine (dropD_V D2.out (by decide)).mono ?_; rintro e x3 ⟨rfl, d1, b1⟩
            replace bel := bel.trans b1
            have D3 := hid d1; clear d1 b1 D2
            go_wp2_with fail
            refine (down_V D3.out).mono ?_; rintro e x4 ⟨rfl, rfl⟩
            go_wp2_with fail
            refine (on_V a2 n2 c2 fs _ D3.out (Below.refl _ _) (ints_later HI.out (bel.mono (Nat.le_of_eq HBW.out))) (fun hn b off e => .inl (by rw [← HBW.out]; exact ints_lt HI.out hn b off e))).mono ?_; rintro e x5 ⟨rfl, ⟨g, d1, -, g2⟩, b1⟩
            replace bel := bel.trans b1
            have D4 := hid d1; clear d1 b1 D3
            obtain ⟨t', q1, q2, q3⟩ := g2 _ _ FA.out
            obtain ⟨T, rfl, k1, k2, k3, k4⟩ := safe_left hsA q2 q3
            obtain ⟨t2, q4, q5, -⟩ := g2 _ _ FO.out
            obtain rfl := q5 rfl
            have FA2 := hid q1; have FO2 := hid q4; have K3 := hid k3; have K4 := hid k4
            clear g2 q1 q2 q3 q4 q5 k3 k4 FA FO
            go_wp2_with fail
            refine (read_V D4.out FA2.out).mono ?_; rintro e x6 ⟨rfl, rfl⟩
            rw [show (fl T).bytes = T.data.toList from rfl, ba_back]
            have z1 : (sf : Int) ≤ T.size := by omega
            have z2 : (T.size : Int) ≤ A.size := by omega
            have z3 : (sf : Int) ≤ A.size := by omega
            have z4 : ¬ (T.size : Int) < sf := by omega
            have z5 : ¬ (A.size : Int) < T.size := by omega
            have k3 := K3.out
            by_cases hlt : sf < T.size
            · have z6 : (sf : Int) < T.size := by omega
              have z7 : IntKind.i64.wrap ((T.size : Int) - 1) = ((T.size - 1 : Nat) : Int) := by rw [IntKind.wrap_i64]; omega
              have z8 : ((T.size - 1 : Nat) : Int) ≤ T.size := by omega
              have z9 : ((T.size - 1 : Nat) : Int) ≤ A.size := by omega
              have k4 := K4.out hlt
              clear K3 K4
              go_wp2_with fail
              go_quiet (fail)
              replace bel := below_drewN bel nq
              have D4 := hid (D4.out.drewN nq)
              obtain ⟨x55, hx55⟩ : ∃ v, v = x5.drewN nq := ⟨_, rfl⟩
              rw [← hx55] at bel D4 ⊢
              clear hx55
              clear z4 z5
              go_wp2_with fail
              go_quiet (fail)
              replace bel := below_drewN bel nq
              have D4 := hid (D4.out.drewN nq)
              clear z1 z2 z3 z6
              go_wp2_with fail
              refine (off2_V D4.out (by decide)).mono ?_; rintro e x7 ⟨m7, rfl, d1, b1⟩
              replace bel := bel.trans b1
              have D5 := hid d1; clear d1 b1 D4
              go_wp2_with fail
              refine (on_V _ 1 1 [1099511627776] _ D5.out ((Below.refl _ _).alloc (Nat.le_refl _) _) (ints_one x7 1099511627776 (by decide) (by decide)) (fun _ b off e => .inr (by cases e; exact Nat.le_refl _))).mono ?_; rintro e x8 ⟨rfl, ⟨g, d1, -, g2⟩, b1⟩
              have bA : Below B x7 (x7.alloc (.cells #[.int .i64 1099511627776] 3)) := ((Below.refl x7.heap.size x7).alloc (Nat.le_refl _) _).mono (Nat.le_trans (Nat.le_of_eq HBW.out.symm) bel.size)
              replace bel := (bel.trans bA).trans b1
              have D6 := hid d1; clear d1 b1 D5 bA
              obtain ⟨t', q1, q2, -⟩ := g2 _ _ FA2.out
              obtain rfl := q2 rfl
              obtain ⟨t2, q4, q5, -⟩ := g2 _ _ FO2.out
              obtain rfl := q5 rfl
              have FA3 := hid q1; have FO3 := hid q4
              clear g2 q1 q2 q4 q5 FA2 FO2
              go_wp2_with fail
              refine (read_V D6.out FA3.out).mono ?_; rintro e x9 ⟨rfl, rfl⟩
              rw [show (fl T).bytes = T.data.toList from rfl, ba_back]
              go_wp2_with fail
              refine (read_V D6.out FO3.out).mono ?_; rintro e x9 ⟨rfl, rfl⟩
              rw [show (fl ⟨#[111]⟩).bytes = (⟨#[111]⟩ : ByteArray).data.toList from rfl, ba_back]
              go_wp2_with fail
              go_ret
              exact ⟨rfl, bel⟩
            · have z6 : ¬ (sf : Int) < T.size := by omega
              clear K3 K4
              go_wp2_with fail
              go_quiet (fail)
              replace bel := below_drewN bel nq
              have D4 := hid (D4.out.drewN nq)
              obtain ⟨x55, hx55⟩ : ∃ v, v = x5.drewN nq := ⟨_, rfl⟩
              rw [← hx55] at bel D4 ⊢
              clear hx55
              clear z4 z5
              go_wp2_with fail
              go_quiet (fail)
              replace bel := below_drewN bel nq
              have D4 := hid (D4.out.drewN nq)
              clear z1 z2 z3 z6
              go_wp2_with fail
              refine (off2_V D4.out (by decide)).mono ?_; rintro e x7 ⟨m7, rfl, d1, b1⟩
              replace bel := bel.trans b1
              have D5 := hid d1; clear d1 b1 D4
              go_wp2_with fail
              refine (on_V _ 1 1 [1099511627776] _ D5.out ((Below.refl _ _).alloc (Nat.le_refl _) _) (ints_one x7 1099511627776 (by decide) (by decide)) (fun _ b off e => .inr (by cases e; exact Nat.le_refl _))).mono ?_; rintro e x8 ⟨rfl, ⟨g, d1, -, g2⟩, b1⟩
              have bA : Below B x7 (x7.alloc (.cells #[.int .i64 1099511627776] 3)) := ((Below.refl x7.heap.size x7).alloc (Nat.le_refl _) _).mono (Nat.le_trans (Nat.le_of_eq HBW.out.symm) bel.size)
              replace bel := (bel.trans bA).trans b1
              have D6 := hid d1; clear d1 b1 D5 bA
              obtain ⟨t', q1, q2, -⟩ := g2 _ _ FA2.out
              obtain rfl := q2 rfl
              obtain ⟨t2, q4, q5, -⟩ := g2 _ _ FO2.out
              obtain rfl := q5 rfl
              have FA3 := hid q1; have FO3 := hid q4
              clear g2 q1 q2 q4 q5 FA2 FO2
              go_wp2_with fail
              refine (read_V D6.out FA3.out).mono ?_; rintro e x9 ⟨rfl, rfl⟩
              rw [show (fl T).bytes = T.data.toList from rfl, ba_back]
              go_wp2_with fail
              refine (read_V D6.out FO3.out).mono ?_; rintro e x9 ⟨rfl, rfl⟩
              rw [show (fl ⟨#[111]⟩).bytes = (⟨#[111]⟩ : ByteArray).data.toList from rfl, ba_back]
              go_wp2_with fail
              go_ret
              exact ⟨rfl, bel⟩
      · have g1 : (4096 : Int) < x.size := by omega
        go_wp2_with fail
        go_ret
        exact ⟨rfl, bel⟩
    · have DX := hid (DX.out.mono (n' := 200) (k' := 2) (u' := 300000) (by omega) (by omega) (by omega))
      have hA6 : A.size ≤ 245760 := by omega
      by_cases hj : j < n
      · have cj1 : (j : Int) < n := by omega
        have cj2 : ¬ (j : Int) < 60 := by omega
        clear hA hj60 hjn hgo hj
        go_wp2_with fail
        refine (off2_V DX.out (by decide)).mono ?_; rintro e x1 ⟨m1, rfl, d1, b1⟩
        replace bel := bel.trans b1
        have D1 := hid d1; clear d1 b1 DX
        go_wp2_with fail
        refine (appendG_V D1.out (by decide) (by decide) ⟨#[120]⟩ (by decide) FA.out (by decide) (by show (A.data.toList).length + _ ≤ _; rw [Array.length_toList]; show A.size + 1 ≤ _; omega)).mono ?_; rintro e x2 ⟨d2, m2, rfl, hd2, d1, b1⟩
        obtain rfl := hd2 rfl
        replace bel := bel.trans b1
        have D2 := hid d1; clear d1 b1 D1 hd2
        rw [if_pos rfl]
        rw [if_pos rfl] at D2
        go_wp2_with fail
        refine (dropD_V D2.out (by decide)).mono ?_; rintro e x3 ⟨rfl, d1, b1⟩
        replace bel := bel.trans b1
        have D3 := hid d1; clear d1 b1 D2
        go_wp2_with fail
        refine (down_V D3.out).mono ?_; rintro e x4 ⟨rfl, rfl⟩
        go_wp2_with fail
        refine (on_V a2 n2 c2 fs _ D3.out (Below.refl _ _) (ints_later HI.out (bel.mono (Nat.le_of_eq HBW.out))) (fun hn b off e => .inl (by rw [← HBW.out]; exact ints_lt HI.out hn b off e))).mono ?_; rintro e x5 ⟨rfl, ⟨g, d1, -, g2⟩, b1⟩
        replace bel := bel.trans b1
        have D4 := hid d1; clear d1 b1 D3
        obtain ⟨t', q1, q2, q3⟩ := g2 _ _ FA.out
        obtain ⟨T, rfl, k1, k2, k3, k4⟩ := safe_left hsA q2 q3
        obtain ⟨t2, q4, q5, -⟩ := g2 _ _ FO.out
        obtain rfl := q5 rfl
        have FA2 := hid q1; have FO2 := hid q4; have K3 := hid k3; have K4 := hid k4
        clear g2 q1 q2 q3 q4 q5 k3 k4 FA FO
        go_wp2_with fail
        refine (read_V D4.out FA2.out).mono ?_; rintro e x6 ⟨rfl, rfl⟩
        rw [show (fl T).bytes = T.data.toList from rfl, ba_back]
        have z1 : (sf : Int) ≤ T.size := by omega
        have z2 : (T.size : Int) ≤ A.size := by omega
        have z3 : (sf : Int) ≤ A.size := by omega
        have z4 : ¬ (T.size : Int) < sf := by omega
        have z5 : ¬ (A.size : Int) < T.size := by omega
        have k3 := K3.out
        by_cases hlt : sf < T.size
        · have z6 : (sf : Int) < T.size := by omega
          have z7 : IntKind.i64.wrap ((T.size : Int) - 1) = ((T.size - 1 : Nat) : Int) := by rw [IntKind.wrap_i64]; omega
          have z8 : ((T.size - 1 : Nat) : Int) ≤ T.size := by omega
          have z9 : ((T.size - 1 : Nat) : Int) ≤ A.size := by omega
          have k4 := K4.out hlt
          clear K3 K4
          go_wp2_with fail
          go_quiet (fail)
          replace bel := below_drewN bel nq
          have D4 := hid (D4.out.drewN nq)
          obtain ⟨x55, hx55⟩ : ∃ v, v = x5.drewN nq := ⟨_, rfl⟩
          rw [← hx55] at bel D4 ⊢
          clear hx55
          clear z4 z5
          go_wp2_with fail
          go_quiet (fail)
          replace bel := below_drewN bel nq
          have D4 := hid (D4.out.drewN nq)
          clear z1 z2 z3 z6
          go_wp2_with fail
          refine (off2_V D4.out (by decide)).mono ?_; rintro e x7 ⟨m7, rfl, d1, b1⟩
          replace bel := bel.trans b1
          have D5 := hid d1; clear d1 b1 D4
          go_wp2_with fail
          refine (on_V _ 1 1 [1099511627776] _ D5.out ((Below.refl _ _).alloc (Nat.le_refl _) _) (ints_one x7 1099511627776 (by decide) (by decide)) (fun _ b off e => .inr (by cases e; exact Nat.le_refl _))).mono ?_; rintro e x8 ⟨rfl, ⟨g, d1, -, g2⟩, b1⟩
          have bA : Below B x7 (x7.alloc (.cells #[.int .i64 1099511627776] 3)) := ((Below.refl x7.heap.size x7).alloc (Nat.le_refl _) _).mono (Nat.le_trans (Nat.le_of_eq HBW.out.symm) bel.size)
          replace bel := (bel.trans bA).trans b1
          have D6 := hid d1; clear d1 b1 D5 bA
          obtain ⟨t', q1, q2, -⟩ := g2 _ _ FA2.out
          obtain rfl := q2 rfl
          obtain ⟨t2, q4, q5, -⟩ := g2 _ _ FO2.out
          obtain rfl := q5 rfl
          have FA3 := hid q1; have FO3 := hid q4
          clear g2 q1 q2 q4 q5 FA2 FO2
          go_wp2_with fail
          refine (read_V D6.out FA3.out).mono ?_; rintro e x9 ⟨rfl, rfl⟩
          rw [show (fl T).bytes = T.data.toList from rfl, ba_back]
          go_wp2_with fail
          refine (read_V D6.out FO3.out).mono ?_; rintro e x9 ⟨rfl, rfl⟩
          rw [show (fl ⟨#[111]⟩).bytes = (⟨#[111]⟩ : ByteArray).data.toList from rfl, ba_back]
          go_wp2_with fail
          go_ret
          exact ⟨rfl, bel⟩
        · have z6 : ¬ (sf : Int) < T.size := by omega
          clear K3 K4
          go_wp2_with fail
          go_quiet (fail)
          replace bel := below_drewN bel nq
          have D4 := hid (D4.out.drewN nq)
          obtain ⟨x55, hx55⟩ : ∃ v, v = x5.drewN nq := ⟨_, rfl⟩
          rw [← hx55] at bel D4 ⊢
          clear hx55
          clear z4 z5
          go_wp2_with fail
          go_quiet (fail)
          replace bel := below_drewN bel nq
          have D4 := hid (D4.out.drewN nq)
          clear z1 z2 z3 z6
          go_wp2_with fail
          refine (off2_V D4.out (by decide)).mono ?_; rintro e x7 ⟨m7, rfl, d1, b1⟩
          replace bel := bel.trans b1
          have D5 := hid d1; clear d1 b1 D4
          go_wp2_with fail
          refine (on_V _ 1 1 [1099511627776] _ D5.out ((Below.refl _ _).alloc (Nat.le_refl _) _) (ints_one x7 1099511627776 (by decide) (by decide)) (fun _ b off e => .inr (by cases e; exact Nat.le_refl _))).mono ?_; rintro e x8 ⟨rfl, ⟨g, d1, -, g2⟩, b1⟩
          have bA : Below B x7 (x7.alloc (.cells #[.int .i64 1099511627776] 3)) := ((Below.refl x7.heap.size x7).alloc (Nat.le_refl _) _).mono (Nat.le_trans (Nat.le_of_eq HBW.out.symm) bel.size)
          replace bel := (bel.trans bA).trans b1
          have D6 := hid d1; clear d1 b1 D5 bA
          obtain ⟨t', q1, q2, -⟩ := g2 _ _ FA2.out
          obtain rfl := q2 rfl
          obtain ⟨t2, q4, q5, -⟩ := g2 _ _ FO2.out
          obtain rfl := q5 rfl
          have FA3 := hid q1; have FO3 := hid q4
          clear g2 q1 q2 q4 q5 FA2 FO2
          go_wp2_with fail
          refine (read_V D6.out FA3.out).mono ?_; rintro e x9 ⟨rfl, rfl⟩
          rw [show (fl T).bytes = T.data.toList from rfl, ba_back]
          go_wp2_with fail
          refine (read_V D6.out FO3.out).mono ?_; rintro e x9 ⟨rfl, rfl⟩
          rw [show (fl ⟨#[111]⟩).bytes = (⟨#[111]⟩ : ByteArray).data.toList from rfl, ba_back]
          go_wp2_with fail
          go_ret
          exact ⟨rfl, bel⟩
      · have cj1 : ¬ (j : Int) < n := by omega
        clear hA hj60 hjn hgo hj
        go_wp2_with fail
        refine (off2_V DX.out (by decide)).mono ?_; rintro e x1 ⟨m1, rfl, d1, b1⟩
        replace bel := bel.trans b1
        have D1 := hid d1; clear d1 b1 DX
        go_wp2_with fail
        refine (appendG_V D1.out (by decide) (by decide) ⟨#[120]⟩ (by decide) FA.out (by decide) (by show (A.data.toList).length + _ ≤ _; rw [Array.length_toList]; show A.size + 1 ≤ _; omega)).mono ?_; rintro e x2 ⟨d2, m2, rfl, hd2, d1, b1⟩
        obtain rfl := hd2 rfl
        replace bel := bel.trans b1
        have D2 := hid d1; clear d1 b1 D1 hd2
        rw [if_pos rfl]
        rw [if_pos rfl] at D2
        go_wp2_with fail
        refine (dropD_V D2.out (by decide)).mono ?_; rintro e x3 ⟨rfl, d1, b1⟩
        replace bel := bel.trans b1
        have D3 := hid d1; clear d1 b1 D2
        go_wp2_with fail
        refine (down_V D3.out).mono ?_; rintro e x4 ⟨rfl, rfl⟩
        go_wp2_with fail
        refine (on_V a2 n2 c2 fs _ D3.out (Below.refl _ _) (ints_later HI.out (bel.mono (Nat.le_of_eq HBW.out))) (fun hn b off e => .inl (by rw [← HBW.out]; exact ints_lt HI.out hn b off e))).mono ?_; rintro e x5 ⟨rfl, ⟨g, d1, -, g2⟩, b1⟩
        replace bel := bel.trans b1
        have D4 := hid d1; clear d1 b1 D3
        obtain ⟨t', q1, q2, q3⟩ := g2 _ _ FA.out
        obtain ⟨T, rfl, k1, k2, k3, k4⟩ := safe_left hsA q2 q3
        obtain ⟨t2, q4, q5, -⟩ := g2 _ _ FO.out
        obtain rfl := q5 rfl
        have FA2 := hid q1; have FO2 := hid q4; have K3 := hid k3; have K4 := hid k4
        clear g2 q1 q2 q3 q4 q5 k3 k4 FA FO
        go_wp2_with fail
        refine (read_V D4.out FA2.out).mono ?_; rintro e x6 ⟨rfl, rfl⟩
        rw [show (fl T).bytes = T.data.toList from rfl, ba_back]
        have z1 : (sf : Int) ≤ T.size := by omega
        have z2 : (T.size : Int) ≤ A.size := by omega
        have z3 : (sf : Int) ≤ A.size := by omega
        have z4 : ¬ (T.size : Int) < sf := by omega
        have z5 : ¬ (A.size : Int) < T.size := by omega
        have k3 := K3.out
        by_cases hlt : sf < T.size
        · have z6 : (sf : Int) < T.size := by omega
          have z7 : IntKind.i64.wrap ((T.size : Int) - 1) = ((T.size - 1 : Nat) : Int) := by rw [IntKind.wrap_i64]; omega
          have z8 : ((T.size - 1 : Nat) : Int) ≤ T.size := by omega
          have z9 : ((T.size - 1 : Nat) : Int) ≤ A.size := by omega
          have k4 := K4.out hlt
          clear K3 K4
          go_wp2_with fail
          go_quiet (fail)
          replace bel := below_drewN bel nq
          have D4 := hid (D4.out.drewN nq)
          obtain ⟨x55, hx55⟩ : ∃ v, v = x5.drewN nq := ⟨_, rfl⟩
          rw [← hx55] at bel D4 ⊢
          clear hx55
          clear z4 z5
          go_wp2_with fail
          go_quiet (fail)
          replace bel := below_drewN bel nq
          have D4 := hid (D4.out.drewN nq)
          clear z1 z2 z3 z6
          go_wp2_with fail
          refine (off2_V D4.out (by decide)).mono ?_; rintro e x7 ⟨m7, rfl, d1, b1⟩
          replace bel := bel.trans b1
          have D5 := hid d1; clear d1 b1 D4
          go_wp2_with fail
          refine (on_V _ 1 1 [1099511627776] _ D5.out ((Below.refl _ _).alloc (Nat.le_refl _) _) (ints_one x7 1099511627776 (by decide) (by decide)) (fun _ b off e => .inr (by cases e; exact Nat.le_refl _))).mono ?_; rintro e x8 ⟨rfl, ⟨g, d1, -, g2⟩, b1⟩
          have bA : Below B x7 (x7.alloc (.cells #[.int .i64 1099511627776] 3)) := ((Below.refl x7.heap.size x7).alloc (Nat.le_refl _) _).mono (Nat.le_trans (Nat.le_of_eq HBW.out.symm) bel.size)
          replace bel := (bel.trans bA).trans b1
          have D6 := hid d1; clear d1 b1 D5 bA
          obtain ⟨t', q1, q2, -⟩ := g2 _ _ FA2.out
          obtain rfl := q2 rfl
          obtain ⟨t2, q4, q5, -⟩ := g2 _ _ FO2.out
          obtain rfl := q5 rfl
          have FA3 := hid q1; have FO3 := hid q4
          clear g2 q1 q2 q4 q5 FA2 FO2
          go_wp2_with fail
          refine (read_V D6.out FA3.out).mono ?_; rintro e x9 ⟨rfl, rfl⟩
          rw [show (fl T).bytes = T.data.toList from rfl, ba_back]
          go_wp2_with fail
          refine (read_V D6.out FO3.out).mono ?_; rintro e x9 ⟨rfl, rfl⟩
          rw [show (fl ⟨#[111]⟩).bytes = (⟨#[111]⟩ : ByteArray).data.toList from rfl, ba_back]
          go_wp2_with fail
          go_ret
          exact ⟨rfl, bel⟩
        · have z6 : ¬ (sf : Int) < T.size := by omega
          clear K3 K4
          go_wp2_with fail
          go_quiet (fail)
          replace bel := below_drewN bel nq
          have D4 := hid (D4.out.drewN nq)
          obtain ⟨x55, hx55⟩ : ∃ v, v = x5.drewN nq := ⟨_, rfl⟩
          rw [← hx55] at bel D4 ⊢
          clear hx55
          clear z4 z5
          go_wp2_with fail
          go_quiet (fail)
          replace bel := below_drewN bel nq
          have D4 := hid (D4.out.drewN nq)
          clear z1 z2 z3 z6
          go_wp2_with fail
          refine (off2_V D4.out (by decide)).mono ?_; rintro e x7 ⟨m7, rfl, d1, b1⟩
          replace bel := bel.trans b1
          have D5 := hid d1; clear d1 b1 D4
          go_wp2_with fail
          refine (on_V _ 1 1 [1099511627776] _ D5.out ((Below.refl _ _).alloc (Nat.le_refl _) _) (ints_one x7 1099511627776 (by decide) (by decide)) (fun _ b off e => .inr (by cases e; exact Nat.le_refl _))).mono ?_; rintro e x8 ⟨rfl, ⟨g, d1, -, g2⟩, b1⟩
          have bA : Below B x7 (x7.alloc (.cells #[.int .i64 1099511627776] 3)) := ((Below.refl x7.heap.size x7).alloc (Nat.le_refl _) _).mono (Nat.le_trans (Nat.le_of_eq HBW.out.symm) bel.size)
          replace bel := (bel.trans bA).trans b1
          have D6 := hid d1; clear d1 b1 D5 bA
          obtain ⟨t', q1, q2, -⟩ := g2 _ _ FA2.out
          obtain rfl := q2 rfl
          obtain ⟨t2, q4, q5, -⟩ := g2 _ _ FO2.out
          obtain rfl := q5 rfl
          have FA3 := hid q1; have FO3 := hid q4
          clear g2 q1 q2 q4 q5 FA2 FO2
          go_wp2_with fail
          refine (read_V D6.out FA3.out).mono ?_; rintro e x9 ⟨rfl, rfl⟩
          rw [show (fl T).bytes = T.data.toList from rfl, ba_back]
          go_wp2_with fail
          refine (read_V D6.out FO3.out).mono ?_; rintro e x9 ⟨rfl, rfl⟩
          rw [show (fl ⟨#[111]⟩).bytes = (⟨#[111]⟩ : ByteArray).data.toList from rfl, ba_back]
          go_wp2_with fail
          go_ret
          exact ⟨rfl, bel⟩
end Go.Proofs.Ythjomknhbfplnaa
