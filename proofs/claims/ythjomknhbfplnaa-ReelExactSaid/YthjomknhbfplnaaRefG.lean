/- The reference's disk: Drop, Cut. -/
import Derived.Test.YthjomknhbfplnaaRefF
namespace Go.Proofs.Ythjomknhbfplnaa
open Go.RowKit Reel
set_option linter.unusedVariables false

section
variable {w w1 w2 W : World} {u : Nat} {v v1 : Value} {S S1 : St} {x : ByteArray}
theorem rwithout_post (h : RefAt w u v S) (hb : Below w.heap.size w W) (k : Nat) (hk : k < S.ents.length) :
    Calls Try.prog 73 #[v, .int .i64 k] W (RowPost w W u v S (S.ents.eraseIdx k)) := by
  have hf := ents_few h.ok
  obtain ⟨a, c, rfl, hc, hR⟩ := own_reels (own_below h.row hb)
  exact (rwithout_any S.ents k a c W hR hf (by omega)).mono fun en w' hp => h.rowPost hb hp
theorem drop_ents {S : St} (hok : S.Ok) {t : Spool} (ht : at_ S x = some t) (U : Nat) : St.ents { delT (actS S).1 x with used := U } = S.ents.eraseIdx (posOf S.l x) := by
  obtain ⟨l1, l2, _⟩ := act_l S
  have := eraseIdx_del (act_ok hok) (x := x) (by rw [l1]; exact (at_some ht).1)
  rw [act_ents, l1] at this
  exact this.symm
theorem cut_ents {S : St} (hok : S.Ok) {t : Spool} (ht : at_ S x = some t) (t' : Spool) (U : Nat) : St.ents { putT (actS S).1 x t' with used := U } = S.ents.set (posOf S.l x) (x, t') := by
  obtain ⟨l1, l2, _⟩ := act_l S
  have := set_put (act_ok hok) (x := x) (by rw [l1]; exact (at_some ht).1) t'
  rw [act_ents, l1] at this
  exact this.symm
set_option maxRecDepth 100000 in
set_option maxHeartbeats 4000000 in
theorem rdrop_any (x : ByteArray) (h : RefAt w u v S) (n : Nat) (hf : S.Fits n) (hn : n < big) (hok : (dropS S x).1.Ok) : Calls Try.prog 52 #[.pointer (some ⟨u, 0, none⟩), .string x] w fun e w' => e = .returned (.int .i64 (dropS S x).2) ∧ RStep w w' u v (dropS S x).1 := by
  have HFD := hid (rfound_any x h)
  have HS0 : Hid (RStep w w u v S) := ⟨v, h, Only.refl _ _, .inl rfl⟩
  by_cases hd : S.down = true
  · have e1 : dropS S x = (S, 10) := by unfold dropS; rw [if_pos hd]
    have e2 : foundI S x = (0, 10) := by unfold foundI; rw [if_pos hd]
    rw [e2] at HFD; rw [e1]
    clear h hd e1 e2 hok hf
    go_enter Try.func52, Try.ntmps52
    go_wp2_with (go_at_call 57; refine HFD.out.mono ?_; rintro e w' ⟨rfl, rfl⟩)
    go_ret
    exact ⟨rfl, HS0.out⟩
  cases ht : at_ S x with
  | none =>
    have e1 : dropS S x = (S, 12) := by unfold dropS; rw [if_neg hd, ht]
    have e2 : foundI S x = (0, 12) := by unfold foundI; rw [if_neg hd, ht]
    rw [e2] at HFD; rw [e1]
    clear h hd ht e1 e2 hok hf
    go_enter Try.func52, Try.ntmps52
    go_wp2_with (go_at_call 57; refine HFD.out.mono ?_; rintro e w' ⟨rfl, rfl⟩)
    go_ret
    exact ⟨rfl, HS0.out⟩
  | some t =>
    have hd' : S.down = false := by simpa using hd
    obtain ⟨hk, -, he⟩ := at_place h.ok ht
    have hfew := ents_few h.ok
    have e2 : foundI S x = ((posOf S.l x : Int), 0) := by unfold foundI; rw [if_neg hd, ht]
    rw [e2] at HFD
    have HAC := hid (ract_any h hd' n hf hn)
    by_cases ha : (actS S).2 = 0
    · have e1 : dropS S x = ({ delT (actS S).1 x with used := S.used - t.bytes.length }, 0) := by unfold dropS; rw [if_neg hd, ht]; exact if_pos ha
      rw [e1] at hok ⊢
      rw [show decide ((actS S).2 = 10) = false by rw [ha]; rfl] at HAC
      have hents := drop_ents h.ok ht (S.used - t.bytes.length)
      have HAL : Hid (Alike16 (actS S).1 { delT (actS S).1 x with used := S.used - t.bytes.length }) := ⟨rfl, rfl, rfl, rfl, rfl⟩
      obtain ⟨S2, hS2⟩ : ∃ S2 : St, { delT (actS S).1 x with used := S.used - t.bytes.length } = S2 := ⟨_, rfl⟩
      rw [hS2] at hok hents HAL ⊢
      obtain ⟨k, hkk⟩ : ∃ k, posOf S.l x = k := ⟨_, rfl⟩
      rw [hkk] at HFD hk hents
      have HEN := hid hents; have HOK := hid hok
      have hE1 : (actS S).1.ents = S.ents := act_ents S
      obtain ⟨S1, hS1⟩ : ∃ S1, (actS S).1 = S1 := ⟨_, rfl⟩
      rw [hS1] at HAC HAL hE1
      have HWO : Hid (∀ w1 v1, RefAt w1 u v1 S1 → Calls Try.prog 73 #[v1, .int .i64 k] w1 fun en w' => ∃ v' a n c, v' = .slice a n c ∧ en = .returned v' ∧ (∀ p z, w1.cell? p = some z → w'.cell? p = some z) ∧ w'.frozen? ⟨u, 0, none⟩ = false ∧ Hid (RStep w1 (w'.setCell ⟨u, 0, none⟩ v') u v1 S2)) := fun w1 v1 hr => by
        refine (rwithout_post hr (Below.refl _ _) k (by rw [hE1]; exact hk)).mono ?_
        rintro en w' ⟨v', a, c, hv, rfl, q1, q2, q3⟩
        exact ⟨v', a, _, c, hv, rfl, q1, q2, q3.out S2 HAL.out (by rw [hE1]; exact HEN.out) HOK.out⟩
      have HK64 : Hid (k < 64) := by have : k < 64 := by omega
                                     exact this
      clear h hd hd' ht e1 e2 ha hents hok hS2 hkk hE1 hS1 he hk hf
      go_enter Try.func52, Try.ntmps52
      go_wp2_with (first
        | (go_at_call 57; refine HFD.out.mono ?_; rintro e w' ⟨rfl, rfl⟩)
        | (go_at_call 72; refine HAC.out.mono ?_; rintro e w1 ⟨rfl, v1, r1, r2, r3⟩; have R1 := hid r1; have R2 := hid r2; have R3 := hid r3; obtain ⟨c0, -, -, -, -, -⟩ := r1.cells; obtain ⟨va1, vc1, rfl, -, -⟩ := own_reels r1.row; clear r1 r2 r3)
        | (go_at_call 73; refine (HWO.out _ _ R1.out).mono ?_; rintro e w' ⟨v', va, vn, vc, rfl, rfl, up, fz, hst⟩; have t0 := up ⟨u, 0, none⟩ _ c0; clear up))
      go_ret
      exact ⟨rfl, RStep.next R1.out R2.out R3.out hst.out⟩
    · have ha10 : (actS S).2 = 10 := by rcases act_err S with e | e; exact absurd e ha; exact e
      have e1 : dropS S x = actS S := by unfold dropS; rw [if_neg hd, ht]; exact if_neg ha
      rw [e1, ha10]
      rw [show decide ((actS S).2 = 10) = true from decide_eq_true ha10] at HAC
      obtain ⟨k, hkk⟩ : ∃ k, posOf S.l x = k := ⟨_, rfl⟩
      simp only [hkk] at HFD hk
      clear h hd hd' ht e1 e2 ha ha10 hok hkk he hf
      go_enter Try.func52, Try.ntmps52
      go_wp2_with (first
        | (go_at_call 57; refine HFD.out.mono ?_; rintro e w' ⟨rfl, rfl⟩)
        | (go_at_call 72; refine HAC.out.mono ?_; rintro e w1 ⟨rfl, hst⟩; have HST := hid hst; clear hst))
      go_ret
      exact ⟨rfl, HST.out⟩
/-- a reel of the disk as the walk copies it out, at a world and all behind it -/
theorem bt_take (l : List UInt8) (n : Nat) (h : n ≤ l.length) : (bt l).extract 0 n = bt (l.take n) := by
  apply ba_ext
  rw [bt_list, ByteArray.data_extract, Array.toList_extract]
  unfold bt; simp
theorem RefAt.apart (h : RefAt w u v S) {gx : Nat} (hg : gx ≠ u) (hv : v.ownBlock ≠ some gx) {w' : World} (ho : Only (· = gx) w w') : RefAt w' u v S :=
  ⟨h.blk.only ho (fun e => hg e.symm), own_only h.row ho (fun k hk e => hv (by rw [hk, e])), h.ok⟩
end
end Go.Proofs.Ythjomknhbfplnaa
