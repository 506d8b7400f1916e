/- The reference's disk: small calls. -/
import Derived.Test.YthjomknhbfplnaaRefA
import Derived.Test.YthjomknhbfplnaaReelAct
import Derived.StillTailTactics
import Derived.Deep.RegionHeld3
import Derived.Deep.DrawnRows
namespace Go.Proofs.Ythjomknhbfplnaa
open Go.RowKit Reel
set_option linter.unusedVariables false
attribute [local go_sem ↓] Go.wp_at_zero Go.wp_at_succ

/-- what a call of the reference's disk leaves -/
def RStep (w w' : World) (u : Nat) (v : Value) (S' : St) : Prop := ∃ v', RefAt w' u v' S' ∧ Only (· = u) w w' ∧ (v' = v ∨ ∀ k, v'.ownBlock = some k → w.heap.size ≤ k)
section
variable {w : World} {u : Nat} {v : Value} {S : St} {x : ByteArray}
theorem RefAt.lt (h : RefAt w u v S) : u < w.heap.size := Blk.lt h.blk
theorem RefAt.ne (h : RefAt w u v S) : v.ownBlock ≠ some u := own_blk_ne h.row h.blk (by decide)
theorem RefAt.later (h : RefAt w u v S) {w' : World} (hb : Below w.heap.size w w') : RefAt w' u v S :=
  ⟨(hb.block u h.lt).trans h.blk, own_below h.row hb, h.ok⟩
theorem RefAt.drewN (h : RefAt w u v S) (n : Nat) : RefAt (w.drewN n) u v S := ⟨h.blk, h.row, h.ok⟩
theorem calls_same {P : Program} {f : FuncId} {args : Array Value} {w : World} {v : Value} (h : Calls P f args w fun e w' => e = .returned v ∧ w = w') : Calls P f args w fun e w' => e = .returned v ∧ w' = w := h.mono fun _ _ h => ⟨h.1, h.2.symm⟩
theorem RefAt.drew (h : RefAt w u v S) : RefAt w.drew u v S := ⟨h.blk, h.row, h.ok⟩
/-- cells of the disk's own block are written -/
theorem RefAt.put (h : RefAt w u v S) {w' : World} {S' : St} (ho : Only (· = u) w w') (hb : Blk w' u 77 #[v, .int .i64 S'.room, .bool S'.down, .int .i64 S'.acts, .int .i64 S'.life, .int .i64 S'.armed]) (he : S'.ents = S.ents) (hok : S'.Ok) : RStep w w' u v S' :=
  ⟨v, ⟨hb, by rw [he]; exact own_only h.row ho (fun k hk e => h.ne (by rw [hk, e])), hok⟩, ho, .inl rfl⟩

theorem rready_any (h : RefAt w u v S) : Calls Try.prog 68 #[.pointer (some ⟨u, 0, none⟩)] w fun e w' => e = .returned (.int .i64 (if S.down = true then 10 else 0)) ∧ w = w' := by
  obtain ⟨-, -, c2, -, -, -⟩ := h.cells
  cases hd : S.down
  all_goals
    rw [hd] at c2
    clear h hd
    go_enter Try.func68, Try.ntmps68
    go_wp2
    go_ret
    exact ⟨rfl, rfl⟩
theorem rdown_any (h : RefAt w u v S) : Calls Try.prog 24 #[.pointer (some ⟨u, 0, none⟩)] w fun e w' => e = .returned (.bool S.down) ∧ w = w' := by
  obtain ⟨-, -, c2, -, -, -⟩ := h.cells
  obtain ⟨d, hd⟩ : ∃ d, S.down = d := ⟨_, rfl⟩
  rw [hd] at c2 ⊢
  clear h hd
  go_enter Try.func24, Try.ntmps24
  go_wp2
  go_ret
  exact ⟨rfl, rfl⟩
theorem racts_any (h : RefAt w u v S) : Calls Try.prog 26 #[.pointer (some ⟨u, 0, none⟩)] w fun e w' => e = .returned (.int .i64 S.acts) ∧ w = w' := by
  obtain ⟨-, -, -, c3, -, -⟩ := h.cells
  clear h
  go_enter Try.func26, Try.ntmps26
  go_wp2
  go_ret
  exact ⟨rfl, rfl⟩
theorem rlife_any (h : RefAt w u v S) : Calls Try.prog 28 #[.pointer (some ⟨u, 0, none⟩)] w fun e w' => e = .returned (.int .i64 S.life) ∧ w = w' := by
  obtain ⟨-, -, -, -, c4, -⟩ := h.cells
  clear h
  go_enter Try.func28, Try.ntmps28
  go_wp2
  go_ret
  exact ⟨rfl, rfl⟩
/-- what stands under a name, and where -/
theorem at_place (h : S.Ok) {t : Spool} (ht : at_ S x = some t) : ∃ hk : posOf S.l x < S.ents.length, placeI S x = (posOf S.l x : Int) ∧ S.ents[posOf S.l x] = (x, t) := by
  obtain ⟨h1, h2⟩ := at_some ht
  obtain ⟨h3, h4⟩ := pos_get h.rising h1
  have hk : posOf S.l x < S.ents.length := by rw [ents_len h]; exact h3
  refine ⟨hk, by unfold placeI; rw [if_pos h1], ?_⟩
  obtain ⟨_, h6, e⟩ := ents_get (S := S) _ hk
  rw [e, h4]
  rw [List.getElem?_eq_getElem h6] at h2
  injection h2 with h2; rw [h2]
theorem at_place_none (h : S.Ok) (ht : at_ S x = none) : placeI S x = -1 := by unfold placeI; rw [if_neg (by rw [at_none h ht]; simp)]
def foundI (S : St) (x : ByteArray) : Int × Int := if S.down = true then (0, 10) else match at_ S x with | none => (0, 12) | some _ => ((posOf S.l x : Int), 0)
theorem rfound_any (x : ByteArray) (h : RefAt w u v S) : Calls Try.prog 57 #[.pointer (some ⟨u, 0, none⟩), .string x] w fun e w' => e = .returned (.tuple #[.int .i64 (foundI S x).1, .int .i64 (foundI S x).2]) ∧ w = w' := by
  have HRD := hid (rready_any h)
  have HPL := hid (rplace_any x h)
  cases hd : S.down
  · cases ht : at_ S x with
    | none =>
      have e1 := at_place_none h.ok ht
      have e2 : foundI S x = (0, 12) := by unfold foundI; rw [if_neg (by rw [hd]; simp), ht]
      rw [hd] at HRD; rw [e1] at HPL; rw [e2]
      clear h hd ht e1 e2
      go_enter Try.func57, Try.ntmps57
      go_wp2_with (first
        | (go_at_call 68; refine HRD.out.mono ?_; rintro e w' ⟨rfl, rfl⟩)
        | (go_at_call 56; refine HPL.out.mono ?_; rintro e w' ⟨rfl, rfl⟩))
      go_ret2
      exact ⟨rfl, rfl⟩
    | some t =>
      obtain ⟨hk, e1, -⟩ := at_place h.ok ht
      have hfew := ents_few h.ok
      have e2 : foundI S x = ((posOf S.l x : Int), 0) := by unfold foundI; rw [if_neg (by rw [hd]; simp), ht]
      rw [hd] at HRD; rw [e1] at HPL; rw [e2]
      obtain ⟨q, hq⟩ : ∃ q, posOf S.l x = q := ⟨_, rfl⟩
      rw [hq] at HPL ⊢
      have hq64 : q < 64 := by omega
      clear h hd ht e1 e2 hk hfew hq
      go_enter Try.func57, Try.ntmps57
      go_wp2_with (first
        | (go_at_call 68; refine HRD.out.mono ?_; rintro e w' ⟨rfl, rfl⟩)
        | (go_at_call 56; refine HPL.out.mono ?_; rintro e w' ⟨rfl, rfl⟩))
      go_ret2
      exact ⟨rfl, rfl⟩
  · have e2 : foundI S x = (0, 10) := by unfold foundI; rw [if_pos hd]
    rw [hd] at HRD; rw [e2]
    clear h hd e2
    go_enter Try.func57, Try.ntmps57
    go_wp2_with (first
      | (go_at_call 68; refine HRD.out.mono ?_; rintro e w' ⟨rfl, rfl⟩))
    go_ret2
    exact ⟨rfl, rfl⟩
set_option maxHeartbeats 1000000 in
theorem rsize_any (x : ByteArray) (h : RefAt w u v S) : Calls Try.prog 29 #[.pointer (some ⟨u, 0, none⟩), .string x] w fun e w' => e = .returned (.int .i64 (sizeS S x)) ∧ ∃ n, w' = w.drewN n := by
  have HPL := hid (rplace_any x h)
  have HPD := hid fun n => calls_same (rplace_any x (h.drewN n))
  cases ht : at_ S x with
  | none =>
    have e1 := at_place_none h.ok ht
    have e2 : sizeS S x = -1 := by unfold sizeS; rw [ht]
    rw [e1] at HPL; rw [e2]
    clear h ht e1 e2
    go_enter Try.func29, Try.ntmps29
    go_wp2_with (go_at_call 56; refine HPL.out.mono ?_; rintro e w' ⟨rfl, rfl⟩)
    go_ret
    exact ⟨rfl, 0, rfl⟩
  | some t =>
    obtain ⟨c0, -, -, -, -, -⟩ := h.cells
    obtain ⟨hk, e1, he⟩ := at_place h.ok ht
    have hfew := ents_few h.ok
    have e2 : sizeS S x = (t.bytes.length : Int) := by unfold sizeS; rw [ht]
    rw [e1] at HPL HPD; rw [e2]
    obtain ⟨a, c, rfl, hc, hR⟩ := own_reels h.row
    obtain ⟨g, rfl, hc0, hc1, hc2⟩ := hR.get hk
    obtain ⟨q, hq⟩ : ∃ q, posOf S.l x = q := ⟨_, rfl⟩
    simp only [hq] at HPL HPD hk he hc0 hc1 hc2
    rw [he] at hc1
    obtain ⟨y, hy⟩ : ∃ y, bt t.bytes = y := ⟨_, rfl⟩
    simp only [hy] at hc1
    have e3 : t.bytes.length = y.size := by rw [← hy, bt_size]
    rw [e3]
    obtain ⟨N, hN⟩ : ∃ N, S.ents.length = N := ⟨_, rfl⟩
    rw [hN] at c0 hk hfew hc
    have b0 : (0 : Int) ≤ (q : Int) := by omega
    have b1 : (q : Int) < N := by omega
    clear h ht e1 e2 he hc0 hc2 hR hq hy e3 hN
    go_enter Try.func29, Try.ntmps29
    go_wp2_with (go_at_call 56; refine HPL.out.mono ?_; rintro e w' ⟨rfl, rfl⟩)
    go_quiet ((go_at_call 56; exact Calls.quiet_of_same (HPD.out _)))
    go_wp2
    go_ret
    exact ⟨rfl, _, rfl⟩
end
end Go.Proofs.Ythjomknhbfplnaa
