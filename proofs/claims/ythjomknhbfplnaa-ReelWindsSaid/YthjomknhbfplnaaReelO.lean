/- The walk of ReelWinds. -/
import Derived.Test.YthjomknhbfplnaaReelW
import Derived.Deep.DrawnRows
import Derived.Deep.RegionHeld3
namespace Go.Proofs.Ythjomknhbfplnaa
open Go.RowKit Reel
set_option linter.unusedVariables false
attribute [local go_sem ↓] Go.wp_at_zero Go.wp_at_succ

def nm2 (i : Nat) : ByteArray := if i = 0 then ⟨#[97]⟩ else ⟨#[98]⟩
theorem nm2_is (i : Nat) : isName (nm2 i) = true := by unfold nm2; split <;> rfl
theorem nm2_ne {i k : Nat} (hi : i < 2) (hk : k < 2) (h : i ≠ k) : nm2 i ≠ nm2 k := by
  unfold nm2
  obtain rfl | rfl : i = 0 ∨ i = 1 := by omega
  · rw [if_pos rfl, if_neg (by omega)]; decide
  · rw [if_neg (by omega), if_pos (by omega)]; decide
def two (A : Nat → ByteArray) : Array Value := #[.string (A 0), .string (A 1)]
theorem two_get {w : World} {g : Nat} {t : TypeId} {A : Nat → ByteArray} (h : Blk w g t (two A)) {k : Nat} (hk : k < 2) : w.cell? ⟨g, k, none⟩ = some (.string (A k)) := by
  obtain rfl | rfl : k = 0 ∨ k = 1 := by omega
  · exact h.cell 0
  · exact h.cell 1
theorem two_set (A : Nat → ByteArray) {k : Nat} (hk : k < 2) (v : ByteArray) : (two A).setIfInBounds k (.string v) = two (fun i => if i = k then v else A i) := by
  obtain rfl | rfl : k = 0 ∨ k = 1 := by omega
  · rfl
  · rfl

set_option maxRecDepth 100000 in
set_option maxHeartbeats 8000000 in
theorem walk_ReelWinds (a : Option Addr) (n c : Nat) (l : List ByteArray) (a2 : Option Addr) (n2 c2 : Nat) (fs : List Int) (w : World) (hs : StrsAt w a n l) (hi : IntsAt w a2 n2 fs) :
    Calls Try.prog 3 #[.slice a n c, .slice a2 n2 c2] w fun e w' => e = .returned (.bool true) ∧ Below w.heap.size w w' := by
  have HS := hid hs; have HI := hid hi
  clear hs hi
  go_enter Try.func3, Try.ntmps3
  go_wp2_with fail
  refine (awake_any _).mono ?_; rintro e w1 ⟨rfl, b1⟩
  go_wp2_with fail
  refine (new_D (B := w.heap.size) 67108864 b1.size).mono ?_; rintro e w2 ⟨p, rfl, d, b2⟩
  have b2 := b1.trans (b2.mono b1.size)
  have D2 := hid d; have B2 := hid b2
  clear d b1 b2
  obtain ⟨g0, hg0⟩ : ∃ g0, w2.heap.size = g0 := ⟨_, rfl⟩
  obtain ⟨K, hK⟩ : ∃ K : Nat → Prop, K = fun k => k < w.heap.size ∨ k = g0 ∨ k = g0 + 1 := ⟨_, rfl⟩
  have hKlow : ∀ k, ¬ K k → w.heap.size ≤ k := fun k hk => by rw [hK] at hk; simp at hk; exact hk.1
  have hK0 : K g0 := by rw [hK]; exact .inr (.inl rfl)
  have hK1 : K (g0 + 1) := by rw [hK]; exact .inr (.inr rfl)
  have hKw : ∀ b, b < w.heap.size → K b := fun b hb => by rw [hK]; exact .inl hb
  have hg0w : w.heap.size ≤ g0 := by rw [← hg0]; exact B2.out.size
  have DK0 : DK K ((w2.alloc (.cells #[.string ⟨#[]⟩, .string ⟨#[]⟩] 27)).alloc (.cells #[.string ⟨#[97]⟩, .string ⟨#[98]⟩] 27)) p (Reel.new 67108864) := by
    obtain ⟨F, h1, h2, h3⟩ := D2.out
    refine ⟨F, (h1.below ((Below.refl _ _).alloc (Nat.le_refl _) _)).below ((Below.refl _ _).alloc (Nat.le_refl _) _), fun k hk e => ?_, fun k hk => ?_⟩
    · have := h1.1 k hk; have := h2 k hk
      rw [hK] at e
      rcases e with e | e | e <;> omega
    · rw [hK] at hk
      simp only [World.size_alloc, hg0]
      rcases hk with e | e | e <;> omega
  have BA : Blk ((w2.alloc (.cells #[.string ⟨#[]⟩, .string ⟨#[]⟩] 27)).alloc (.cells #[.string ⟨#[97]⟩, .string ⟨#[98]⟩] 27)) g0 27 (two fun _ => ⟨#[]⟩) := by
    have := (Blk.new w2 27 #[.string ⟨#[]⟩, .string ⟨#[]⟩]).alloc (.cells #[.string ⟨#[97]⟩, .string ⟨#[98]⟩] 27)
    rwa [hg0] at this
  have BN : Blk ((w2.alloc (.cells #[.string ⟨#[]⟩, .string ⟨#[]⟩] 27)).alloc (.cells #[.string ⟨#[97]⟩, .string ⟨#[98]⟩] 27)) (g0 + 1) 27 (two nm2) := by
    have := Blk.new (w2.alloc (.cells #[.string ⟨#[]⟩, .string ⟨#[]⟩] 27)) 27 #[.string ⟨#[97]⟩, .string ⟨#[98]⟩]
    rwa [World.size_alloc, hg0] at this
  have bel : Below w.heap.size w ((w2.alloc (.cells #[.string ⟨#[]⟩, .string ⟨#[]⟩] 27)).alloc (.cells #[.string ⟨#[97]⟩, .string ⟨#[98]⟩] 27)) := B2.out.trans (((Below.refl _ _).alloc (by rw [hg0]; exact hg0w) _).alloc (by rw [World.size_alloc, hg0]; omega) _)
  have HK := hid hK; have HKL := hid hKlow; have HKW := hid hKw
  clear hK hKlow hKw
  go_wp2_with fail
  go_loopw [8] (fun iv wr => ∃ (j : Nat) (S : St) (f : ByteArray → Option Spool) (A : Nat → ByteArray), j ≤ 60 ∧ j ≤ n ∧ iv = .int .i64 j ∧ Hid (DK K wr p S) ∧ Hid (View S false 0 (2 * j) j (4096 * j) f) ∧ Hid (∀ i, i < 2 → Holds f (nm2 i) (A i) ∧ (A i).size ≤ 4096 * j) ∧ Hid (Blk wr g0 27 (two A)) ∧ Hid (Blk wr (g0 + 1) 27 (two nm2)) ∧ Hid (Below w.heap.size w wr)) (fun i _ => 60 - (intOf i).toNat)
  case atStart => exact ⟨0, _, _, _, by omega, by omega, rfl, DK0, view_new, fun i _ => ⟨.inr ⟨rfl, rfl⟩, by decide⟩, BA, BN, bel⟩
  case round =>
    clear bel BA BN DK0
    obtain ⟨j, S, f, A, hj60, hjn, rfl, DX, VX, HX, BA, BN, bel⟩ := hrel
    by_cases hgo : j < n ∧ j < 60
    · obtain ⟨hj, hj6⟩ := hgo
      have cj1 : (j : Int) < n := by omega
      have cj2 : (j : Int) < 60 := by omega
      obtain ⟨ab, aoff, rfl, hab, hac⟩ := strs_get HS.out hj
      obtain ⟨x, hx⟩ : ∃ x, l.getD j ByteArray.empty = x := ⟨_, rfl⟩
      rw [hx] at hac
      have hcell : wr.cell? ⟨ab, aoff + j, none⟩ = some (.string x) := (World.cell?_of_block (bel.out.block ab hab)).trans hac
      have HAC := hid hac
      clear hx hac
      by_cases hx4 : x.size ≤ 4096
      · have g1 : ¬ (4096 : Int) < x.size := by omega
        obtain ⟨k, hk⟩ : ∃ k, x.size % 2 = k := ⟨_, rfl⟩
        have hk2 : k < 2 := by omega
        have ck0 : (0 : Int) ≤ (k : Int) := by omega
        have ck2 : (k : Int) < 2 := by omega
        have tm : (x.size : Int).tmod 2 = (k : Int) := (Int.ofNat_tmod x.size 2).symm.trans (by rw [hk])
        have TM := hid tm
        clear hk
        obtain ⟨hA, hAz⟩ := HX.out k hk2
        obtain ⟨Ak, hAk⟩ : ∃ Ak, A k = Ak := ⟨_, rfl⟩
        obtain ⟨Nk, hNk⟩ : ∃ Nk, nm2 k = Nk := ⟨_, rfl⟩
        have hNi : isName Nk = true := by rw [← hNk]; exact nm2_is k
        have a0 : wr.cell? ⟨g0, k, none⟩ = some (.string Ak) := by rw [← hAk]; exact two_get BA.out hk2
        have fz0 : wr.frozen? ⟨g0, k, none⟩ = false := BA.out.frozen k
        have n0 : wr.cell? ⟨g0 + 1, k, none⟩ = some (.string Nk) := by rw [← hNk]; exact two_get BN.out hk2
        rw [hAk] at hA hAz; rw [hNk] at hA
        have HNI := hid hNi; have HA := hid hA; have HAK := hid hAk; have HNK := hid hNk
        clear hAk hNk hNi hA
        have hcat : ¬ 9223372036854775807 < Ak.size + x.size := by omega
        go_wp2_with fail
        go_still_tail 10, (by kernel_rfl)
        change wpList _ _ _ _ _ wr.drew
        go_wp2_with fail
        generalize hW3 : (wr.setCell ⟨g0, k, none⟩ (.string (Ak ++ x))).drew = W3
        have O3 : Only (· = g0) wr W3 := by rw [← hW3]; exact ((Only.refl (· = g0) wr).setCell (p := ⟨g0, k, none⟩) (.inl rfl) _).drew
        have DX3 : Hid (DK K W3 p S) := DX.out.only O3 (fun k e => by subst e; exact hK0)
        have BA3 : Hid (Blk W3 g0 27 (two fun i => if i = k then Ak ++ x else A i)) := by
          have := (BA.out.set k (.string (Ak ++ x))).drew
          rw [hW3, two_set _ hk2] at this
          exact this
        have BN3 : Hid (Blk W3 (g0 + 1) 27 (two nm2)) := BN.out.only O3 (fun e => by have e : g0 + 1 = g0 := e; omega)
        have BEL3 : Hid (Below w.heap.size w W3) := bel.out.trans (O3.below (fun k e => by have e : k = g0 := e; omega) bel.out.size)
        obtain ⟨s1, s2, s3, s4⟩ := winds_step VX.out HA.out (s := x) HNI.out hx4 (by omega) (by omega) (by omega)
        have S1 := hid s1; have S2 := hid s2; have S3 := hid s3; have S4 := hid s4
        have HCELL : Hid (∀ v, Only (fun k => ¬ K k) W3 v → v.cell? ⟨g0 + 1, k, none⟩ = some (.string Nk) ∧ v.cell? ⟨ab, aoff + j, none⟩ = some (.string x) ∧ v.cell? ⟨g0, k, none⟩ = some (.string (Ak ++ x))) := fun v ov =>
          ⟨ov.cell (by rw [← HNK.out]; exact two_get BN3.out hk2) (fun e => e hK1), ov.cell ((World.cell?_of_block (BEL3.out.block ab hab)).trans HAC.out) (fun e => e (HKW.out ab hab)), ov.cell ((two_get BA3.out hk2).trans (by rw [if_pos rfl])) (fun e => e hK0)⟩
        have CA : Hid (Calls Try.prog 10 #[.pointer (some ⟨p, 0, none⟩), .string Nk, .string x] W3.drew fun e w' => e = .returned (.int .i64 0) ∧ Hid (DK K w' p (appendS S Nk x).1) ∧ Only (fun k => ¬ K k) W3 w') := by
          have := append_K (2 * j) Nk x (DX3.out.only ((Only.refl NoF W3).drew) (fun _ e => e.elim)) VX.out.fits (by unfold big; omega) (by have := HNI.out; unfold isName at this; simp at this; omega) (by omega)
          rw [S1.out] at this
          exact this.mono (fun e w' h => ⟨h.1, h.2.1, (Only.refl (fun k => ¬ K k) W3).drew.then h.2.2⟩)
        have CS : Hid (∀ v, Hid (DK K v p (appendS S Nk x).1) → Calls Try.prog 11 #[.pointer (some ⟨p, 0, none⟩), .string Nk] v fun e w' => e = .returned (.int .i64 0) ∧ Hid (DK K w' p (syncS (appendS S Nk x).1 Nk).1) ∧ Only (fun k => ¬ K k) v w') := fun v hv => by
          have := sync_K (2 * j + 1) Nk hv.out S2.out (by unfold big; omega)
          rw [S3.out] at this; exact this
        have CZ : Hid (∀ v, Hid (DK K v p (syncS (appendS S Nk x).1 Nk).1) → Calls Try.prog 12 #[.pointer (some ⟨p, 0, none⟩), .string Nk] v fun e w' => e = .returned (.int .i64 ((Ak.size : Int) + (x.size : Int))) ∧ v = w') := fun v hv => by
          have := size_K Nk hv.out
          rw [view_size S4.out, upd_self] at this
          have e : (((fl (Ak ++ x)).bytes.length : Nat) : Int) = (Ak.size : Int) + (x.size : Int) := by show ((Ak ++ x).data.toList.length : Int) = _; rw [Array.length_toList]; show ((Ak ++ x).size : Int) = _; rw [ByteArray.size_append]; omega
          simp only [e] at this; exact this
        clear s1 s2 s3 s4 a0 fz0 n0 hcell O3 hW3 hcat g1 tm
        have hs0 := HCELL.out W3 (Only.refl _ _)
        go_region_held3 (fun v => v.cell? ⟨g0 + 1, k, none⟩ = some (.string Nk) ∧ v.cell? ⟨ab, aoff + j, none⟩ = some (.string x) ∧ v.cell? ⟨g0, k, none⟩ = some (.string (Ak ++ x))) ((first | exact hs0 | exact hs1 | exact hs2 | go_keep)) ((first
          | (go_at_call 10; refine CA.out.mono ?_; rintro e v1 ⟨rfl, d1, o1⟩; have hs1 := HCELL.out v1 o1)
          | (go_at_call 11; refine (CS.out _ d1).mono ?_; rintro e v2 ⟨rfl, d2, o2⟩; have hs2 := HCELL.out v2 (o1.then o2))
          | (go_at_call 12; refine (CZ.out _ d2).mono ?_; rintro e v3 ⟨rfl, rfl⟩)))
        go_wp2_with fail
        go_roundw
        case rel =>
          refine ⟨j + 1, _, _, fun i => if i = k then Ak ++ x else A i, by omega, by omega, by go_num, d2, (S4.out.mono (n' := 2 * (j + 1)) (k' := j + 1) (u' := 4096 * (j + 1)) (by omega) (by omega) (by omega)), ?_, BA3.out.only (o1.then o2) (fun e => e hK0), BN3.out.only (o1.then o2) (fun e => e hK1), BEL3.out.trans ((o1.then o2).below (fun k e => HKL.out k e) BEL3.out.size)⟩
          intro i hi
          by_cases hik : i = k
          · subst hik
            simp only [if_true]
            refine ⟨.inl ?_, ?_⟩
            · rw [HNK.out, upd_self]
            · rw [ByteArray.size_append]; omega
          · simp only [if_neg hik]
            obtain ⟨e1, e2⟩ := HX.out i hi
            refine ⟨e1.other ?_, by omega⟩
            rw [← HNK.out]; exact nm2_ne hi hk2 hik
        case measure => simp [intOf]; omega
      · have g1 : (4096 : Int) < x.size := by omega
        go_wp2_with fail
        go_ret
        exact ⟨rfl, bel.out⟩
    · have gt : n ≤ j ∨ 60 ≤ j := by omega
      obtain ⟨er, hr⟩ : ∃ q, q = onS (offS S) fs := ⟨_, rfl⟩
      have hev : View (offS S) true 0 (2 * j + 1) j (4096 * j) f := view_off VX.out
      have CF : Hid (Calls Try.prog 13 #[.pointer (some ⟨p, 0, none⟩)] wr fun e w' => e = .returned (.tuple #[]) ∧ DK K w' p (offS S) ∧ Only (fun k => ¬ K k) wr w') := off_K (2 * j) DX.out VX.out.fits (by unfold big; omega)
      have CO : Hid (∀ v, DK K v p (offS S) → Only (fun k => ¬ K k) wr v → Calls Try.prog 14 #[.pointer (some ⟨p, 0, none⟩), .slice a2 n2 c2] v fun e w' => e = .returned (.tuple #[]) ∧ DK K w' p er ∧ Only (fun k => ¬ K k) v w') := fun v hv ho => by
        rw [hr]
        exact on_K a2 n2 c2 fs hv (ints_later HI.out (bel.out.trans (ho.below (fun k e => HKL.out k e) bel.out.size))) (fun hn b off e => HKW.out b (ints_lt HI.out hn b off e))
      have CR : Hid (∀ v i, i < 2 → DK K v p er → ∃ e, Calls Try.prog 15 #[.pointer (some ⟨p, 0, none⟩), .string (nm2 i)] v (fun en w' => en = .returned (.tuple #[.string (A i), .int .i64 e]) ∧ v = w') ∧ (e = 0 ∨ (e = 12 ∧ A i = ⟨#[]⟩))) := fun v i hi hv => by
        obtain ⟨e, h1, h2⟩ := again' VX.out (HX.out i hi).1 fs
        have := read_K (nm2 i) hv
        rw [hr, h1] at this
        exact ⟨e, this, h2⟩
      have BA' := hid BA; have BN' := hid BN
      clear hr hev
      clear gt
      by_cases hn : j < n
      all_goals
        first
          | (have cj1 : (j : Int) < n := by omega
             have cj2 : ¬ (j : Int) < 60 := by omega)
          | (have cj1 : ¬ (j : Int) < n := by omega)
        go_wp2_with (first
          | (go_at_call 13; refine CF.out.mono ?_; rintro e v1 ⟨rfl, d1, o1⟩)
          | (go_at_call 14; refine (CO.out _ d1 o1).mono ?_; rintro e v2 ⟨rfl, d2, o2⟩))
        have D2' := hid d2
        have BA2 : Hid (Blk v2 g0 27 (two A)) := BA.out.only (o1.then o2) (fun e => e hK0)
        have BN2 : Hid (Blk v2 (g0 + 1) 27 (two nm2)) := BN.out.only (o1.then o2) (fun e => e hK1)
        have BEL2 : Hid (Below w.heap.size w v2) := bel.out.trans ((o1.then o2).below (fun k e => HKL.out k e) bel.out.size)
        clear d1 d2 o1 o2
        go_loop [10] (fun iv => ∃ i : Nat, i ≤ 2 ∧ iv = .int .i64 i) (fun i => 2 - (intOf i).toNat)
        case atStart => exact ⟨0, by omega, rfl⟩
        case round =>
          obtain ⟨i, hi2, rfl⟩ := hrel
          by_cases hi : i < 2
          · have ci0 : (0 : Int) ≤ (i : Int) := by omega
            have ci2 : (i : Int) < 2 := by omega
            obtain ⟨e, hcr, he⟩ := CR.out v2 i hi D2'.out
            have HCR := hid hcr
            clear hcr
            have q0 := two_get BA2.out hi
            have q1 := two_get BN2.out hi
            rcases he with rfl | ⟨rfl, hAi⟩
            · go_wp2_with (go_at_call 15; refine HCR.out.mono ?_; rintro e v3 ⟨rfl, rfl⟩)
              go_round
              case rel => exact ⟨i + 1, by omega, by go_num⟩
              case measure => simp [intOf]; omega
            · rw [hAi] at HCR q0
              go_wp2_with (go_at_call 15; refine HCR.out.mono ?_; rintro e v3 ⟨rfl, rfl⟩)
              go_round
              case rel => exact ⟨i + 1, by omega, by go_num⟩
              case measure => simp [intOf]; omega
          · have ci2 : ¬ (i : Int) < 2 := by omega
            go_wp2_with fail
            go_ret
            exact ⟨rfl, BEL2.out⟩
end Go.Proofs.Ythjomknhbfplnaa
