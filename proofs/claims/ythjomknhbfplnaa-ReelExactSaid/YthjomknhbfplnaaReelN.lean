/- The walk of ReelWhole. -/
import Derived.Test.YthjomknhbfplnaaReelM
import Derived.Test.YthjomknhbfplnaaReelL
namespace Go.Proofs.Ythjomknhbfplnaa
open Go.RowKit Reel
set_option linter.unusedVariables false

namespace Reel
def nA : ByteArray := ⟨#[97]⟩
def nB : ByteArray := ⟨#[98]⟩
def fl (s : ByteArray) : Spool := ⟨s.data.toList, s.data.toList.length⟩
def f4 (s t : ByteArray) : ByteArray → Option Spool := upd (upd (fun _ => none) ⟨#[97]⟩ (some (fl s))) ⟨#[98]⟩ (some (fl t))
def y1 (s : ByteArray) : St := (appendS (new 67108864) ⟨#[97]⟩ s).1
def y2 (s : ByteArray) : St := (syncS (y1 s) ⟨#[97]⟩).1
def y3 (s t : ByteArray) : St := (appendS (y2 s) ⟨#[98]⟩ t).1
def y4 (s t : ByteArray) : St := (syncS (y3 s t) ⟨#[98]⟩).1
theorem upd_upd (f : ByteArray → Option Spool) (x : ByteArray) (v u : Option Spool) : upd (upd f x v) x u = upd f x u := by
  funext y; unfold upd; split <;> rfl
section
variable {s t : ByteArray} (hs : s.size ≤ 4096) (ht : t.size ≤ 4096)
include hs
theorem y1_v : (appendS (new 67108864) ⟨#[97]⟩ s).2 = 0 ∧ View (y1 s) false 0 1 1 4096 (upd (fun _ => none) ⟨#[97]⟩ (some ⟨s.data.toList, 0⟩)) := by
  obtain ⟨h1, h2⟩ := view_append view_new s (x := ⟨#[97]⟩) (by decide) (by omega) (by decide) (fun t h => by cases h) (by omega)
  exact ⟨h1, h2.mono (by omega) (by omega) (by omega)⟩
theorem y2_v : (syncS (y1 s) ⟨#[97]⟩).2 = 0 ∧ View (y2 s) false 0 2 1 4096 (upd (fun _ => none) ⟨#[97]⟩ (some (fl s))) := by
  obtain ⟨h1, h2⟩ := view_sync (y1_v hs).2 (upd_self _ _ _)
  rw [upd_upd] at h2
  exact ⟨h1, h2⟩
include ht
theorem y3_v : (appendS (y2 s) ⟨#[98]⟩ t).2 = 0 ∧ View (y3 s t) false 0 3 2 8192 (upd (upd (fun _ => none) ⟨#[97]⟩ (some (fl s))) ⟨#[98]⟩ (some ⟨t.data.toList, 0⟩)) := by
  have hf : upd (fun _ => none) ⟨#[97]⟩ (some (fl s)) ⟨#[98]⟩ = none := upd_other _ _ (by decide)
  obtain ⟨h1, h2⟩ := view_append (y2_v hs).2 t (x := ⟨#[98]⟩) (by decide) (by omega) (by decide) (fun t h => by rw [hf] at h; cases h) (by omega)
  rw [hf] at h2
  exact ⟨h1, h2.mono (by omega) (by omega) (by omega)⟩
theorem y4_v : (syncS (y3 s t) ⟨#[98]⟩).2 = 0 ∧ View (y4 s t) false 0 4 2 8192 (f4 s t) := by
  obtain ⟨h1, h2⟩ := view_sync (y3_v hs ht).2 (upd_self _ _ _)
  rw [upd_upd] at h2
  exact ⟨h1, h2⟩
end
theorem f4_a (s t : ByteArray) : f4 s t ⟨#[97]⟩ = some (fl s) := (upd_other _ _ (by decide)).trans (upd_self _ _ _)
theorem f4_b (s t : ByteArray) : f4 s t ⟨#[98]⟩ = some (fl t) := upd_self _ _ _
/-- off and on again, where all is safe -/
theorem again {S : St} {d : Bool} {n k u : Nat} {f : ByteArray → Option Spool} (h : View S d 0 n k u f) {x : ByteArray} :
    (∀ t, f x = some t → t.bytes.length = t.safe → readS (onS (offS S) []) x = (t.bytes, 0)) ∧ (f x = none → readS (onS (offS S) []) x = ([], 12)) := by
  have h1 := view_off h
  obtain ⟨g, hg, g1, g2⟩ := view_on h1 []
  have hr := view_read hg x
  constructor
  · intro t ht hl
    obtain ⟨t', e1, e2, -⟩ := g2 x t ht
    rw [hr, e1, e2 hl]
  · intro hx
    rw [hr, g1 x hx]
theorem ba_back (s : ByteArray) : (⟨s.data.toList.toArray⟩ : ByteArray) = s := by cases s; simp
theorem ba_take (s : ByteArray) (k : Nat) : (⟨(s.data.toList.take k).toArray⟩ : ByteArray) = s.extract 0 k := by
  apply ba_ext
  rw [ByteArray.data_extract]
  simp
end Reel

set_option maxRecDepth 100000 in
set_option maxHeartbeats 8000000 in
theorem walk_ReelWhole (s t : ByteArray) (n : Int) (w : World) (hn1 : -9223372036854775808 ≤ n) (hn2 : n ≤ 9223372036854775807) (hs : s.size ≤ 9223372036854775807) (ht : t.size ≤ 9223372036854775807) :
    Calls Try.prog 5 #[.string s, .string t, .int .i64 n] w fun e w' => e = .returned (.bool true) ∧ Below w.heap.size w w' := by
  by_cases hb : s.size ≤ 4096 ∧ t.size ≤ 4096
  · obtain ⟨hs4, ht4⟩ := hb
    have g1 : ¬ (4096 : Int) < s.size := by omega
    have g2 : ¬ (4096 : Int) < t.size := by omega
    have e1 : IntKind.i64.wrap ((s.size : Int) + 1) = s.size + 1 := by rw [IntKind.wrap_i64]; omega
    have e2 : IntKind.u64.wrap ((s.size : Int) + 1) = s.size + 1 := by rw [IntKind.wrap_u64]; omega
    have e3 : ¬ (s.size : Int) + 1 = 0 := by omega
    obtain ⟨k, hk⟩ : ∃ k : Nat, (IntKind.u64.wrap n).tmod ((s.size : Int) + 1) = k := by
      refine ⟨((IntKind.u64.wrap n).tmod ((s.size : Int) + 1)).toNat, ?_⟩
      have h0 : 0 ≤ IntKind.u64.wrap n := by rw [IntKind.wrap_u64]; omega
      have := Int.tmod_nonneg ((s.size : Int) + 1) h0
      omega
    have hks : k ≤ s.size := by
      have := Int.tmod_lt_of_pos (IntKind.u64.wrap n) (show 0 < (s.size : Int) + 1 by omega)
      omega
    have e4 : IntKind.u64.wrap (k : Int) = k := by rw [IntKind.wrap_u64]; omega
    have e5 : IntKind.i64.wrap (k : Int) = k := by rw [IntKind.wrap_i64]; omega
    have hks2 : (k : Int) ≤ s.size := by omega
    clear hn1 hn2 hs ht
    go_enter Try.func5, Try.ntmps5
    go_wp2_with fail
    refine (awake_any _).mono ?_; rintro e w1 ⟨rfl, b1⟩
    go_wp2_with fail
    have HS4 := hid hs4; have HT4 := hid ht4
    clear hs4 ht4 g1 g2 e1 e2 e3 hk e4 e5
    have B1 := hid b1; clear b1
    go_loopw [8] (fun i wr => ∃ j : Nat, j ≤ 6 ∧ i = .int .i64 j ∧ Below w1.heap.size w1 wr) (fun i _ => 6 - (intOf i).toNat)
    case atStart => exact ⟨0, by omega, rfl, Below.refl _ _⟩
    case round =>
      obtain ⟨j, hj, rfl, bel⟩ := hrel
      have hsz : w1.heap.size ≤ wr.heap.size := bel.size
      obtain ⟨B, hB⟩ : ∃ B, w1.heap.size = B := ⟨_, rfl⟩
      have HBB := hid hB
      rw [hB] at hsz bel ⊢
      have HSZ := hid hsz
      clear hB hsz
      have hcases : j = 0 ∨ j = 1 ∨ j = 2 ∨ j = 3 ∨ j = 4 ∨ j = 5 ∨ j = 6 := by omega
      clear hj
      rcases hcases with rfl | rfl | rfl | rfl | rfl | rfl | rfl
      · go_wp2_with fail
        refine (new_D (B := B) 67108864 HSZ.out).mono ?_; rintro e v0 ⟨p, rfl, d, b⟩
        replace bel := bel.trans (b.mono HSZ.out)
        clear b
        have D0 := hid d; clear d
        go_wp2_with fail
        refine (append_D 4 _ _ D0.out (view_new.mono (by omega) (Nat.le_refl _) (Nat.le_refl _)).fits (by decide) (by decide) (by have := HS4.out; omega)).mono ?_; rintro e v1 ⟨rfl, d, b⟩
        replace bel := bel.trans b
        clear b
        rw [(y1_v HS4.out).1]
        have D1 : Hid (D B v1 p (y1 s)) := d
        clear d D0
        go_wp2_with fail
        refine (sync_D 1 _ D1.out (y1_v HS4.out).2.fits (by decide)).mono ?_; rintro e v2 ⟨rfl, d, b⟩
        replace bel := bel.trans b
        clear b
        rw [(y2_v HS4.out).1]
        have D2 : Hid (D B v2 p (y2 s)) := d
        clear d D1
        go_wp2_with fail
        refine (append_D 2 _ _ D2.out (y2_v HS4.out).2.fits (by decide) (by decide) (by have := HT4.out; omega)).mono ?_; rintro e v3 ⟨rfl, d, b⟩
        replace bel := bel.trans b
        clear b
        rw [(y3_v HS4.out HT4.out).1]
        have D3 : Hid (D B v3 p (y3 s t)) := d
        clear d D2
        go_wp2_with fail
        refine (sync_D 3 _ D3.out (y3_v HS4.out HT4.out).2.fits (by decide)).mono ?_; rintro e v4 ⟨rfl, d, b⟩
        replace bel := bel.trans b
        clear b
        rw [(y4_v HS4.out HT4.out).1]
        have D4 : Hid (D B v4 p (y4 s t)) := d
        clear d D3
        have VW := hid (y4_v HS4.out HT4.out).2
        obtain ⟨er, vw⟩ := view_cut VW.out (f4_a s t) k (by show k ≤ s.data.toList.length; rw [Array.length_toList]; exact hks)
        go_wp2_with fail
        refine (cut_D 4 ⟨#[97]⟩ (k : Int) D4.out VW.out.fits (by decide) (by omega) (by have := HS4.out; omega)).mono ?_; rintro e v6 ⟨rfl, d, b⟩
        replace bel := bel.trans b
        clear b
        rw [er]
        clear er
        have D5 := hid d; clear d D4 VW
        have VW := hid vw; clear vw
        go_wp2_with fail
        refine (off_D 5 D5.out VW.out.fits (by decide)).mono ?_; rintro e v7 ⟨rfl, d, b⟩
        replace bel := bel.trans b
        clear b
        have D6 := hid d; clear d D5
        go_wp2_with fail
        refine (on_D none 0 0 [] v7 D6.out (Below.refl _ _) (ints_nil _) (fun _ _ _ e => by cases e)).mono ?_; rintro e v8 ⟨rfl, d, b⟩
        replace bel := bel.trans b
        clear b
        have D7 := hid d; clear d D6
        go_wp2_with fail
        refine (read_D ⟨#[97]⟩ D7.out).mono ?_; rintro e v9 ⟨rfl, rfl⟩
        rw [(again VW.out).1 (cutT (fl s) k) (upd_self _ _ _) (by unfold cutT fl; simp only [List.length_take]; omega)]
        go_wp2_with fail
        refine (read_D ⟨#[98]⟩ D7.out).mono ?_; rintro e v9 ⟨rfl, rfl⟩
        rw [(again VW.out).1 (fl t) ((upd_other _ _ (by decide)).trans (f4_b s t)) rfl]
        rw [show (cutT (fl s) k).bytes = s.data.toList.take k from rfl, ba_take, show (fl t).bytes = t.data.toList from rfl, ba_back]
        go_wp2_with fail
        go_roundw
        case rel => exact ⟨1, by omega, by go_num, bel⟩
        case measure => simp [intOf]
      · go_wp2_with fail
        refine (new_D (B := B) 67108864 HSZ.out).mono ?_; rintro e v0 ⟨p, rfl, d, b⟩
        replace bel := bel.trans (b.mono HSZ.out)
        clear b
        have D0 := hid d; clear d
        go_wp2_with fail
        refine (append_D 4 _ _ D0.out (view_new.mono (by omega) (Nat.le_refl _) (Nat.le_refl _)).fits (by decide) (by decide) (by have := HS4.out; omega)).mono ?_; rintro e v1 ⟨rfl, d, b⟩
        replace bel := bel.trans b
        clear b
        rw [(y1_v HS4.out).1]
        have D1 : Hid (D B v1 p (y1 s)) := d
        clear d D0
        go_wp2_with fail
        refine (sync_D 1 _ D1.out (y1_v HS4.out).2.fits (by decide)).mono ?_; rintro e v2 ⟨rfl, d, b⟩
        replace bel := bel.trans b
        clear b
        rw [(y2_v HS4.out).1]
        have D2 : Hid (D B v2 p (y2 s)) := d
        clear d D1
        go_wp2_with fail
        refine (append_D 2 _ _ D2.out (y2_v HS4.out).2.fits (by decide) (by decide) (by have := HT4.out; omega)).mono ?_; rintro e v3 ⟨rfl, d, b⟩
        replace bel := bel.trans b
        clear b
        rw [(y3_v HS4.out HT4.out).1]
        have D3 : Hid (D B v3 p (y3 s t)) := d
        clear d D2
        go_wp2_with fail
        refine (sync_D 3 _ D3.out (y3_v HS4.out HT4.out).2.fits (by decide)).mono ?_; rintro e v4 ⟨rfl, d, b⟩
        replace bel := bel.trans b
        clear b
        rw [(y4_v HS4.out HT4.out).1]
        have D4 : Hid (D B v4 p (y4 s t)) := d
        clear d D3
        have VW := hid (y4_v HS4.out HT4.out).2
        obtain ⟨er, vw⟩ := view_swap VW.out (f4_a s t) (y := ⟨#[98]⟩) (by decide) (f4_b s t) (by decide)
        go_wp2_with fail
        refine (swap_D 4 ⟨#[97]⟩ ⟨#[98]⟩ D4.out VW.out.fits (by decide) (by decide)).mono ?_; rintro e v6 ⟨rfl, d, b⟩
        replace bel := bel.trans b
        clear b
        rw [er]
        clear er
        have D5 := hid d; clear d D4 VW
        have VW := hid vw; clear vw
        go_wp2_with fail
        refine (off_D 5 D5.out VW.out.fits (by decide)).mono ?_; rintro e v7 ⟨rfl, d, b⟩
        replace bel := bel.trans b
        clear b
        have D6 := hid d; clear d D5
        go_wp2_with fail
        refine (on_D none 0 0 [] v7 D6.out (Below.refl _ _) (ints_nil _) (fun _ _ _ e => by cases e)).mono ?_; rintro e v8 ⟨rfl, d, b⟩
        replace bel := bel.trans b
        clear b
        have D7 := hid d; clear d D6
        go_wp2_with fail
        refine (read_D ⟨#[97]⟩ D7.out).mono ?_; rintro e v9 ⟨rfl, rfl⟩
        rw [(again VW.out).2 ((upd_other _ _ (by decide)).trans (upd_self _ _ _))]
        go_wp2_with fail
        refine (read_D ⟨#[98]⟩ D7.out).mono ?_; rintro e v9 ⟨rfl, rfl⟩
        rw [(again VW.out).1 (fl s) (upd_self _ _ _) rfl]
        rw [show (fl s).bytes = s.data.toList from rfl, ba_back]
        go_wp2_with fail
        go_roundw
        case rel => exact ⟨2, by omega, by go_num, bel⟩
        case measure => simp [intOf]
      · go_wp2_with fail
        refine (new_D (B := B) 67108864 HSZ.out).mono ?_; rintro e v0 ⟨p, rfl, d, b⟩
        replace bel := bel.trans (b.mono HSZ.out)
        clear b
        have D0 := hid d; clear d
        go_wp2_with fail
        refine (append_D 4 _ _ D0.out (view_new.mono (by omega) (Nat.le_refl _) (Nat.le_refl _)).fits (by decide) (by decide) (by have := HS4.out; omega)).mono ?_; rintro e v1 ⟨rfl, d, b⟩
        replace bel := bel.trans b
        clear b
        rw [(y1_v HS4.out).1]
        have D1 : Hid (D B v1 p (y1 s)) := d
        clear d D0
        go_wp2_with fail
        refine (sync_D 1 _ D1.out (y1_v HS4.out).2.fits (by decide)).mono ?_; rintro e v2 ⟨rfl, d, b⟩
        replace bel := bel.trans b
        clear b
        rw [(y2_v HS4.out).1]
        have D2 : Hid (D B v2 p (y2 s)) := d
        clear d D1
        go_wp2_with fail
        refine (append_D 2 _ _ D2.out (y2_v HS4.out).2.fits (by decide) (by decide) (by have := HT4.out; omega)).mono ?_; rintro e v3 ⟨rfl, d, b⟩
        replace bel := bel.trans b
        clear b
        rw [(y3_v HS4.out HT4.out).1]
        have D3 : Hid (D B v3 p (y3 s t)) := d
        clear d D2
        go_wp2_with fail
        refine (sync_D 3 _ D3.out (y3_v HS4.out HT4.out).2.fits (by decide)).mono ?_; rintro e v4 ⟨rfl, d, b⟩
        replace bel := bel.trans b
        clear b
        rw [(y4_v HS4.out HT4.out).1]
        have D4 : Hid (D B v4 p (y4 s t)) := d
        clear d D3
        have VW := hid (y4_v HS4.out HT4.out).2
        obtain ⟨er, vw⟩ := view_drop VW.out (f4_a s t)
        go_wp2_with fail
        refine (drop_D 4 ⟨#[97]⟩ D4.out VW.out.fits (by decide)).mono ?_; rintro e v6 ⟨rfl, d, b⟩
        replace bel := bel.trans b
        clear b
        rw [er]
        clear er
        have D5 := hid d; clear d D4 VW
        have VW := hid vw; clear vw
        go_wp2_with fail
        refine (off_D 5 D5.out VW.out.fits (by decide)).mono ?_; rintro e v7 ⟨rfl, d, b⟩
        replace bel := bel.trans b
        clear b
        have D6 := hid d; clear d D5
        go_wp2_with fail
        refine (on_D none 0 0 [] v7 D6.out (Below.refl _ _) (ints_nil _) (fun _ _ _ e => by cases e)).mono ?_; rintro e v8 ⟨rfl, d, b⟩
        replace bel := bel.trans b
        clear b
        have D7 := hid d; clear d D6
        go_wp2_with fail
        refine (read_D ⟨#[97]⟩ D7.out).mono ?_; rintro e v9 ⟨rfl, rfl⟩
        rw [(again VW.out).2 (upd_self _ _ _)]
        go_wp2_with fail
        refine (read_D ⟨#[98]⟩ D7.out).mono ?_; rintro e v9 ⟨rfl, rfl⟩
        rw [(again VW.out).1 (fl t) ((upd_other _ _ (by decide)).trans (f4_b s t)) rfl]
        rw [show (fl t).bytes = t.data.toList from rfl, ba_back]
        go_wp2_with fail
        go_roundw
        case rel => exact ⟨3, by omega, by go_num, bel⟩
        case measure => simp [intOf]
      · go_wp2_with fail
        refine (new_D (B := B) 67108864 HSZ.out).mono ?_; rintro e v0 ⟨p, rfl, d, b⟩
        replace bel := bel.trans (b.mono HSZ.out)
        clear b
        have D0 := hid d; clear d
        go_wp2_with fail
        refine (append_D 4 _ _ D0.out (view_new.mono (by omega) (Nat.le_refl _) (Nat.le_refl _)).fits (by decide) (by decide) (by have := HS4.out; omega)).mono ?_; rintro e v1 ⟨rfl, d, b⟩
        replace bel := bel.trans b
        clear b
        rw [(y1_v HS4.out).1]
        have D1 : Hid (D B v1 p (y1 s)) := d
        clear d D0
        go_wp2_with fail
        refine (sync_D 1 _ D1.out (y1_v HS4.out).2.fits (by decide)).mono ?_; rintro e v2 ⟨rfl, d, b⟩
        replace bel := bel.trans b
        clear b
        rw [(y2_v HS4.out).1]
        have D2 : Hid (D B v2 p (y2 s)) := d
        clear d D1
        go_wp2_with fail
        refine (append_D 2 _ _ D2.out (y2_v HS4.out).2.fits (by decide) (by decide) (by have := HT4.out; omega)).mono ?_; rintro e v3 ⟨rfl, d, b⟩
        replace bel := bel.trans b
        clear b
        rw [(y3_v HS4.out HT4.out).1]
        have D3 : Hid (D B v3 p (y3 s t)) := d
        clear d D2
        go_wp2_with fail
        refine (sync_D 3 _ D3.out (y3_v HS4.out HT4.out).2.fits (by decide)).mono ?_; rintro e v4 ⟨rfl, d, b⟩
        replace bel := bel.trans b
        clear b
        rw [(y4_v HS4.out HT4.out).1]
        have D4 : Hid (D B v4 p (y4 s t)) := d
        clear d D3
        have VW := hid (y4_v HS4.out HT4.out).2
        go_wp2_with fail
        refine (arm_D 1 (by decide) D4.out).mono ?_; rintro e v5 ⟨rfl, d, b⟩
        replace bel := bel.trans b
        clear b
        have D4 : Hid (D B v5 p (armS (y4 s t) 1)) := d
        clear d
        have VW : Hid (View (armS (y4 s t) 1) false 1 4 2 8192 (f4 s t)) := view_arm VW.out 1 (by decide)
        obtain ⟨er, vw⟩ := view_cut1 VW.out (f4_a s t) k (by show k ≤ s.data.toList.length; rw [Array.length_toList]; exact hks)
        go_wp2_with fail
        refine (cut_D 4 ⟨#[97]⟩ (k : Int) D4.out VW.out.fits (by decide) (by omega) (by have := HS4.out; omega)).mono ?_; rintro e v6 ⟨rfl, d, b⟩
        replace bel := bel.trans b
        clear b
        rw [er]
        clear er
        have D5 := hid d; clear d D4 VW
        have VW := hid vw; clear vw
        go_wp2_with fail
        refine (off_D 5 D5.out VW.out.fits (by decide)).mono ?_; rintro e v7 ⟨rfl, d, b⟩
        replace bel := bel.trans b
        clear b
        have D6 := hid d; clear d D5
        go_wp2_with fail
        refine (on_D none 0 0 [] v7 D6.out (Below.refl _ _) (ints_nil _) (fun _ _ _ e => by cases e)).mono ?_; rintro e v8 ⟨rfl, d, b⟩
        replace bel := bel.trans b
        clear b
        have D7 := hid d; clear d D6
        go_wp2_with fail
        refine (read_D ⟨#[97]⟩ D7.out).mono ?_; rintro e v9 ⟨rfl, rfl⟩
        rw [(again VW.out).1 (fl s) (f4_a s t) rfl]
        go_wp2_with fail
        refine (read_D ⟨#[98]⟩ D7.out).mono ?_; rintro e v9 ⟨rfl, rfl⟩
        rw [(again VW.out).1 (fl t) (f4_b s t) rfl]
        rw [show (fl s).bytes = s.data.toList from rfl, show (fl t).bytes = t.data.toList from rfl, ba_back, ba_back]
        go_wp2_with fail
        go_roundw
        case rel => exact ⟨4, by omega, by go_num, bel⟩
        case measure => simp [intOf]
      · go_wp2_with fail
        refine (new_D (B := B) 67108864 HSZ.out).mono ?_; rintro e v0 ⟨p, rfl, d, b⟩
        replace bel := bel.trans (b.mono HSZ.out)
        clear b
        have D0 := hid d; clear d
        go_wp2_with fail
        refine (append_D 4 _ _ D0.out (view_new.mono (by omega) (Nat.le_refl _) (Nat.le_refl _)).fits (by decide) (by decide) (by have := HS4.out; omega)).mono ?_; rintro e v1 ⟨rfl, d, b⟩
        replace bel := bel.trans b
        clear b
        rw [(y1_v HS4.out).1]
        have D1 : Hid (D B v1 p (y1 s)) := d
        clear d D0
        go_wp2_with fail
        refine (sync_D 1 _ D1.out (y1_v HS4.out).2.fits (by decide)).mono ?_; rintro e v2 ⟨rfl, d, b⟩
        replace bel := bel.trans b
        clear b
        rw [(y2_v HS4.out).1]
        have D2 : Hid (D B v2 p (y2 s)) := d
        clear d D1
        go_wp2_with fail
        refine (append_D 2 _ _ D2.out (y2_v HS4.out).2.fits (by decide) (by decide) (by have := HT4.out; omega)).mono ?_; rintro e v3 ⟨rfl, d, b⟩
        replace bel := bel.trans b
        clear b
        rw [(y3_v HS4.out HT4.out).1]
        have D3 : Hid (D B v3 p (y3 s t)) := d
        clear d D2
        go_wp2_with fail
        refine (sync_D 3 _ D3.out (y3_v HS4.out HT4.out).2.fits (by decide)).mono ?_; rintro e v4 ⟨rfl, d, b⟩
        replace bel := bel.trans b
        clear b
        rw [(y4_v HS4.out HT4.out).1]
        have D4 : Hid (D B v4 p (y4 s t)) := d
        clear d D3
        have VW := hid (y4_v HS4.out HT4.out).2
        go_wp2_with fail
        refine (arm_D 1 (by decide) D4.out).mono ?_; rintro e v5 ⟨rfl, d, b⟩
        replace bel := bel.trans b
        clear b
        have D4 : Hid (D B v5 p (armS (y4 s t) 1)) := d
        clear d
        have VW : Hid (View (armS (y4 s t) 1) false 1 4 2 8192 (f4 s t)) := view_arm VW.out 1 (by decide)
        obtain ⟨er, vw⟩ := view_swap1 VW.out (f4_a s t) ⟨#[98]⟩ (by decide)
        go_wp2_with fail
        refine (swap_D 4 ⟨#[97]⟩ ⟨#[98]⟩ D4.out VW.out.fits (by decide) (by decide)).mono ?_; rintro e v6 ⟨rfl, d, b⟩
        replace bel := bel.trans b
        clear b
        rw [er]
        clear er
        have D5 := hid d; clear d D4 VW
        have VW := hid vw; clear vw
        go_wp2_with fail
        refine (off_D 5 D5.out VW.out.fits (by decide)).mono ?_; rintro e v7 ⟨rfl, d, b⟩
        replace bel := bel.trans b
        clear b
        have D6 := hid d; clear d D5
        go_wp2_with fail
        refine (on_D none 0 0 [] v7 D6.out (Below.refl _ _) (ints_nil _) (fun _ _ _ e => by cases e)).mono ?_; rintro e v8 ⟨rfl, d, b⟩
        replace bel := bel.trans b
        clear b
        have D7 := hid d; clear d D6
        go_wp2_with fail
        refine (read_D ⟨#[97]⟩ D7.out).mono ?_; rintro e v9 ⟨rfl, rfl⟩
        rw [(again VW.out).1 (fl s) (f4_a s t) rfl]
        go_wp2_with fail
        refine (read_D ⟨#[98]⟩ D7.out).mono ?_; rintro e v9 ⟨rfl, rfl⟩
        rw [(again VW.out).1 (fl t) (f4_b s t) rfl]
        rw [show (fl s).bytes = s.data.toList from rfl, show (fl t).bytes = t.data.toList from rfl, ba_back, ba_back]
        go_wp2_with fail
        go_roundw
        case rel => exact ⟨5, by omega, by go_num, bel⟩
        case measure => simp [intOf]
      · go_wp2_with fail
        refine (new_D (B := B) 67108864 HSZ.out).mono ?_; rintro e v0 ⟨p, rfl, d, b⟩
        replace bel := bel.trans (b.mono HSZ.out)
        clear b
        have D0 := hid d; clear d
        go_wp2_with fail
        refine (append_D 4 _ _ D0.out (view_new.mono (by omega) (Nat.le_refl _) (Nat.le_refl _)).fits (by decide) (by decide) (by have := HS4.out; omega)).mono ?_; rintro e v1 ⟨rfl, d, b⟩
        replace bel := bel.trans b
        clear b
        rw [(y1_v HS4.out).1]
        have D1 : Hid (D B v1 p (y1 s)) := d
        clear d D0
        go_wp2_with fail
        refine (sync_D 1 _ D1.out (y1_v HS4.out).2.fits (by decide)).mono ?_; rintro e v2 ⟨rfl, d, b⟩
        replace bel := bel.trans b
        clear b
        rw [(y2_v HS4.out).1]
        have D2 : Hid (D B v2 p (y2 s)) := d
        clear d D1
        go_wp2_with fail
        refine (append_D 2 _ _ D2.out (y2_v HS4.out).2.fits (by decide) (by decide) (by have := HT4.out; omega)).mono ?_; rintro e v3 ⟨rfl, d, b⟩
        replace bel := bel.trans b
        clear b
        rw [(y3_v HS4.out HT4.out).1]
        have D3 : Hid (D B v3 p (y3 s t)) := d
        clear d D2
        go_wp2_with fail
        refine (sync_D 3 _ D3.out (y3_v HS4.out HT4.out).2.fits (by decide)).mono ?_; rintro e v4 ⟨rfl, d, b⟩
        replace bel := bel.trans b
        clear b
        rw [(y4_v HS4.out HT4.out).1]
        have D4 : Hid (D B v4 p (y4 s t)) := d
        clear d D3
        have VW := hid (y4_v HS4.out HT4.out).2
        go_wp2_with fail
        refine (arm_D 1 (by decide) D4.out).mono ?_; rintro e v5 ⟨rfl, d, b⟩
        replace bel := bel.trans b
        clear b
        have D4 : Hid (D B v5 p (armS (y4 s t) 1)) := d
        clear d
        have VW : Hid (View (armS (y4 s t) 1) false 1 4 2 8192 (f4 s t)) := view_arm VW.out 1 (by decide)
        obtain ⟨er, vw⟩ := view_drop1 VW.out (f4_a s t)
        go_wp2_with fail
        refine (drop_D 4 ⟨#[97]⟩ D4.out VW.out.fits (by decide)).mono ?_; rintro e v6 ⟨rfl, d, b⟩
        replace bel := bel.trans b
        clear b
        rw [er]
        clear er
        have D5 := hid d; clear d D4 VW
        have VW := hid vw; clear vw
        go_wp2_with fail
        refine (off_D 5 D5.out VW.out.fits (by decide)).mono ?_; rintro e v7 ⟨rfl, d, b⟩
        replace bel := bel.trans b
        clear b
        have D6 := hid d; clear d D5
        go_wp2_with fail
        refine (on_D none 0 0 [] v7 D6.out (Below.refl _ _) (ints_nil _) (fun _ _ _ e => by cases e)).mono ?_; rintro e v8 ⟨rfl, d, b⟩
        replace bel := bel.trans b
        clear b
        have D7 := hid d; clear d D6
        go_wp2_with fail
        refine (read_D ⟨#[97]⟩ D7.out).mono ?_; rintro e v9 ⟨rfl, rfl⟩
        rw [(again VW.out).1 (fl s) (f4_a s t) rfl]
        go_wp2_with fail
        refine (read_D ⟨#[98]⟩ D7.out).mono ?_; rintro e v9 ⟨rfl, rfl⟩
        rw [(again VW.out).1 (fl t) (f4_b s t) rfl]
        rw [show (fl s).bytes = s.data.toList from rfl, show (fl t).bytes = t.data.toList from rfl, ba_back, ba_back]
        go_wp2_with fail
        go_roundw
        case rel => exact ⟨6, by omega, by go_num, bel⟩
        case measure => simp [intOf]
      · go_wp2_with fail
        go_ret
        exact ⟨rfl, B1.out.trans (bel.mono (by have := B1.out.size; have := HBB.out; omega))⟩
  · go_enter Try.func5, Try.ntmps5
    go_wp2_with fail
    refine (awake_any _).mono ?_; rintro e w1 ⟨rfl, b1⟩
    by_cases hs4 : s.size ≤ 4096
    · have g1 : ¬ (4096 : Int) < s.size := by omega
      have g2 : (4096 : Int) < t.size := by omega
      go_wp2_with fail
      go_ret
      exact ⟨rfl, b1⟩
    · have g1 : (4096 : Int) < s.size := by omega
      go_wp2_with fail
      go_ret
      exact ⟨rfl, b1⟩
end Go.Proofs.Ythjomknhbfplnaa
