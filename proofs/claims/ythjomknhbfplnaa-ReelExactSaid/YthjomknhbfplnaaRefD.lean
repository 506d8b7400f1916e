/- The reference's rows of reels: with, without, set. -/
import Derived.Test.YthjomknhbfplnaaRefC
namespace Go.Proofs.Ythjomknhbfplnaa
open Go.RowKit Reel
set_option linter.unusedVariables false

def insStep (e : Ent) (s : List Ent × Bool) (y : Ent) : List Ent × Bool := if s.2 = false ∧ lt' e.1 y.1 = true then (s.1 ++ [e, y], true) else (s.1 ++ [y], s.2)
def insF (e : Ent) (L : List Ent) : List Ent × Bool := L.foldl (insStep e) ([], false)
def insE (e : Ent) (L : List Ent) : List Ent := if (insF e L).2 = true then (insF e L).1 else (insF e L).1 ++ [e]
theorem insF_snoc (e : Ent) (L : List Ent) (y : Ent) : insF e (L ++ [y]) = insStep e (insF e L) y := by unfold insF; rw [List.foldl_append]; rfl
theorem insF_len (e : Ent) (L : List Ent) : (insF e L).1.length ≤ L.length + 1 ∧ ((insF e L).2 = false → (insF e L).1.length = L.length) := by
  suffices h : ∀ (L : List Ent) (s : List Ent × Bool), (L.foldl (insStep e) s).1.length ≤ s.1.length + L.length + (if s.2 = true then 0 else 1) ∧ ((L.foldl (insStep e) s).2 = false → s.2 = false ∧ (L.foldl (insStep e) s).1.length = s.1.length + L.length) by
    obtain ⟨h1, h2⟩ := h L ([], false)
    refine ⟨by simp at h1; unfold insF; omega, fun hf => ?_⟩
    have := (h2 hf).2; simpa [insF] using this
  intro L
  induction L with
  | nil => intro s; exact ⟨by simp, fun h => ⟨h, by simp⟩⟩
  | cons y r ih =>
    intro s
    rw [List.foldl_cons]
    obtain ⟨h1, h2⟩ := ih (insStep e s y)
    unfold insStep at h1 h2 ⊢
    split at h1
    · rename_i hc
      rw [if_pos hc] at h2 ⊢
      refine ⟨?_, fun h => absurd (h2 h).1 (by simp)⟩
      simp only [List.length_append, List.length_cons, List.length_nil, if_true] at h1 ⊢
      rw [hc.1]; simp only [Bool.false_eq_true, if_false]; omega
    · rename_i hc
      rw [if_neg hc] at h2 ⊢
      refine ⟨?_, fun h => ⟨(h2 h).1, ?_⟩⟩
      · simp only [List.length_append, List.length_cons, List.length_nil] at h1 ⊢; omega
      · have := (h2 h).2; simp only [List.length_append, List.length_cons, List.length_nil] at this ⊢; omega
theorem rvals_snoc (L : List Ent) (e : Ent) : rvals (L ++ [e]) = rvals L ++ rcell e := by rw [rvals_append]; simp [rvals]
theorem cellNew3 (w : World) (e : Ent) (t : TypeId) : ∀ j u, (rcell e)[j]? = some u → (w.alloc (.cells #[.string e.1, .string (bt e.2.bytes), .int .i64 e.2.safe] t)).cell? ((⟨w.heap.size, 0, none⟩ : Addr).add j) = some u := by
  intro j u h
  have hb : Blk (w.alloc (.cells #[.string e.1, .string (bt e.2.bytes), .int .i64 e.2.safe] t)) w.heap.size t #[.string e.1, .string (bt e.2.bytes), .int .i64 e.2.safe] := Blk.new _ _ _
  have hj : (⟨w.heap.size, 0, none⟩ : Addr).add j = ⟨w.heap.size, j, none⟩ := by unfold Addr.add; split <;> simp_all
  rw [hj, hb.cell]
  match j with
  | 0 => exact h
  | 1 => exact h
  | 2 => exact h
  | _ + 3 => exact absurd h (by simp [rcell])
theorem rcell_one (e : Ent) : ∀ u ∈ rcell e, u.oneCell' = true := by
  intro u hu
  simp only [rcell, List.mem_cons, List.not_mem_nil, or_false] at hu
  rcases hu with rfl | rfl | rfl <;> rfl
theorem own_reel_snoc {w : World} {B : Nat} {v : Value} {L : List Ent} {e : Ent} {t : TypeId} (h : w.ownsRow B t 3 v (L.length + 1) (rvals L ++ rcell e)) : w.ownsRow B t 3 v (L ++ [e]).length (rvals (L ++ [e])) := by
  rw [rvals_snoc, List.length_append]; exact h
theorem ReelsAt.later {w w' : World} {a : Option Addr} {n : Nat} {L : List Ent} (h : ReelsAt w a n L) {B : Nat} (hB : w.heap.size ≤ B) (hb : Below B w w') : ReelsAt w' a n L := by
  obtain ⟨h1, h2⟩ := h
  refine ⟨h1, h2.imp id ?_⟩
  rintro ⟨g, ha, hcs⟩
  refine ⟨g, ha, fun j hj => ?_⟩
  obtain ⟨q0, q1, q2⟩ := hcs j hj
  have up : ∀ {p : Addr} {z : Value}, w.cell? p = some z → w'.cell? p = some z := fun hz => (World.cell?_of_block (hb.block _ (Nat.lt_of_lt_of_le (World.block_lt_of_cell? _ _ hz) hB))).trans hz
  exact ⟨up q0, up q1, up q2⟩
theorem own_base {w : World} {B B' : Nat} {e : TypeId} {s n : Nat} {v : Value} {xs : List Value} (h : w.ownsRow B e s v n xs) (hB : B' ≤ B) : w.ownsRow B' e s v n xs := by
  refine ⟨h.1, h.2.imp id ?_⟩
  rintro ⟨g, cap, cur, rfl, hb, r⟩
  exact ⟨g, cap, cur, rfl, by omega, r⟩

set_option maxRecDepth 100000 in
set_option maxHeartbeats 4000000 in
theorem rwithout_any (L : List Ent) (at_ : Nat) (a : Option Addr) (c : Nat) (w : World) (hR : ReelsAt w a L.length L) (hL : L.length ≤ 64) (hat : at_ ≤ 64) :
    Calls Try.prog 73 #[.slice a L.length c, .int .i64 at_] w fun en w' => ∃ v', en = .returned v' ∧ w'.ownsRow w.heap.size 79 3 v' (L.eraseIdx at_).length (rvals (L.eraseIdx at_)) ∧ Below w.heap.size w w' := by
  obtain ⟨i0, hi0, hz0, hz1, hz2⟩ := info_parts Try.infoRl
  have HR := hid hR
  clear hR
  go_enter Try.func73, Try.ntmps73
  go_wp2
  go_loopw [5, 6] (fun ov iv wr => ∃ (k : Nat), k ≤ L.length ∧ iv = .int .i64 k ∧ Hid (wr.ownsRow w.heap.size 79 3 ov ((L.take k).eraseIdx at_).length (rvals ((L.take k).eraseIdx at_))) ∧ Hid (Below w.heap.size w wr)) (fun _ iv _ => L.length - (intOf iv).toNat)
  case atStart => exact ⟨0, by omega, rfl, World.ownsRow_made _ _ 0 (Nat.le_refl _) (by unfold maxLen; omega) rfl, (Below.refl _ _).alloc (Nat.le_refl _) _⟩
  case round =>
    obtain ⟨k, hk, rfl, HO, bel⟩ := hrel
    have hsz : w.heap.size ≤ wr.heap.size := bel.out.size
    by_cases hlt : k < L.length
    · have ck : (k : Int) < L.length := by omega
      obtain ⟨g, rfl, hc0, hc1, hc2⟩ := (HR.out.later (Nat.le_refl _) bel.out).get hlt
      have HT : Hid (L.take (k + 1) = L.take k ++ [L[k]]) := List.take_succ_eq_append_getElem hlt
      obtain ⟨y, hy⟩ : ∃ y, L[k] = y := ⟨_, rfl⟩
      rw [hy] at hc0 hc1 hc2 HT
      have hlk : (L.take k).length = k := by rw [List.length_take]; omega
      by_cases hka : k = at_
      · subst hka
        have HE : Hid ((L.take (k + 1)).eraseIdx k = (L.take k).eraseIdx k) := by
          show (L.take (k + 1)).eraseIdx k = (L.take k).eraseIdx k
          rw [HT.out, List.eraseIdx_append_of_length_le (by omega), hlk, Nat.sub_self, List.eraseIdx_of_length_le (by omega : (L.take k).length ≤ k)]
          simp
        clear hc0 hc1 hc2 hy hlk HT
        go_wp2_with fail
        go_roundw
        case rel => exact ⟨k + 1, by omega, by go_num, by rw [HE.out]; exact HO, bel⟩
        case measure => simp [intOf]; omega
      · have kb : ((k : Int) != (at_ : Int)) = true := by rw [bne_iff_ne]; omega
        have HE : Hid ((L.take (k + 1)).eraseIdx at_ = (L.take k).eraseIdx at_ ++ [y]) := by
          show (L.take (k + 1)).eraseIdx at_ = (L.take k).eraseIdx at_ ++ [y]
          rw [HT.out]
          rcases Nat.lt_or_ge at_ k with hlt2 | hge2
          · rw [List.eraseIdx_append_of_lt_length (by omega)]
          · rw [List.eraseIdx_of_length_le (by simp; omega), List.eraseIdx_of_length_le (by omega : (L.take k).length ≤ at_)]
        have hle : ((L.take k).eraseIdx at_).length ≤ 64 := by
          have := List.length_eraseIdx_le (L.take k) at_; omega
        have hown := HO.out
        clear HO hy hlk HT hka
        go_wp2_with (at_builtin; refine wpList_append_own _ rfl (.tmp 17) (.tmp 22) 75 rfl w.heap.size 79 i0 (.agg #[.string ⟨#[]⟩, .string ⟨#[]⟩, .int .i64 0]) 3 40 Try.underlying75 hi0 hz0 hz1 hz2 rfl (by decide) _ _ _ rfl (hown.alloc _) _ 1 1 (rcell y) rfl rfl (cellNew3 _ _ _) (rcell_one y) (by unfold maxLen; omega) (by omega) (by simp; omega) ?_; intro v' w3 hown' hgrow _)
        go_roundw
        case rel => exact ⟨k + 1, by omega, by go_num, by rw [HE.out]; exact own_reel_snoc hown', below_grown1 bel.out hown _ hsz hgrow⟩
        case measure => simp [intOf]; omega
    · have ck : ¬ (k : Int) < L.length := by omega
      have HF : Hid (wr.ownsRow w.heap.size 79 3 u5 (L.eraseIdx at_).length (rvals (L.eraseIdx at_))) := by have := HO.out; rw [List.take_of_length_le (by omega)] at this; exact this
      go_wp2_with fail
      go_ret
      exact ⟨_, rfl, HF.out, bel.out⟩

theorem insStep_no (e : Ent) (s : List Ent × Bool) (y : Ent) (h : s.2 = true ∨ lt' e.1 y.1 = false) : insStep e s y = (s.1 ++ [y], s.2) := by
  unfold insStep; rw [if_neg]; rintro ⟨h1, h2⟩; rcases h with h | h
  · rw [h1] at h; cases h
  · rw [h2] at h; cases h
theorem insStep_yes (e : Ent) (s : List Ent × Bool) (y : Ent) (h1 : s.2 = false) (h2 : lt' e.1 y.1 = true) : insStep e s y = (s.1 ++ [e] ++ [y], true) := by
  unfold insStep; rw [if_pos ⟨h1, h2⟩]; simp
set_option maxRecDepth 100000 in
set_option maxHeartbeats 8000000 in
theorem rwith_any (L : List Ent) (e : Ent) (a : Option Addr) (c : Nat) (w : World) (hR : ReelsAt w a L.length L) (hL : L.length ≤ 64) :
    Calls Try.prog 70 #[.slice a L.length c, .agg #[.string e.1, .string (bt e.2.bytes), .int .i64 e.2.safe]] w fun en w' => ∃ v', en = .returned v' ∧ w'.ownsRow w.heap.size 79 3 v' (insE e L).length (rvals (insE e L)) ∧ Below w.heap.size w w' := by
  obtain ⟨i0, hi0, hz0, hz1, hz2⟩ := info_parts Try.infoRl
  obtain ⟨W, hW⟩ : ∃ W, w.alloc (.cells #[.string e.1, .string (bt e.2.bytes), .int .i64 e.2.safe] 79) = W := ⟨_, rfl⟩
  obtain ⟨gx, hgx⟩ : ∃ gx, w.heap.size = gx := ⟨_, rfl⟩
  have BX : Hid (Blk W gx 79 #[.string e.1, .string (bt e.2.bytes), .int .i64 e.2.safe]) := by rw [← hW, ← hgx]; exact Blk.new _ _ _
  have HWS : Hid (W.heap.size = gx + 1) := by rw [← hW, ← hgx]; show (w.alloc _).heap.size = _; simp
  have HBW : Hid (Below gx w W) := by rw [← hW]; exact (Below.refl _ _).alloc (by omega) _
  have HR : Hid (ReelsAt W a L.length L) := hR.later (Nat.le_of_eq hgx) HBW.out
  have HW := hid hW
  clear hR hW
  rw [hgx]
  have HGX := hid hgx
  clear hgx
  go_enter Try.func70, Try.ntmps70
  go_wp2
  rw [HW.out, HGX.out]
  go_loopw [5, 6, 7] (fun ov pv iv wr => ∃ (k : Nat) (b : Bool), k ≤ L.length ∧ iv = .int .i64 k ∧ pv = .bool b ∧ Hid ((insF e (L.take k)).2 = b) ∧ Hid (wr.ownsRow (gx + 1) 79 3 ov (insF e (L.take k)).1.length (rvals (insF e (L.take k)).1)) ∧ Hid (Below (gx + 1) W wr)) (fun _ _ iv _ => L.length - (intOf iv).toNat)
  case atStart =>
    refine ⟨0, false, by omega, rfl, rfl, rfl, ?_, (Below.refl _ _).alloc (Nat.le_of_eq HWS.out.symm) _⟩
    have := World.ownsRow_made (e := 79) (size := 3) (base := gx + 1) W #[] 0 (Nat.le_of_eq HWS.out.symm) (by unfold maxLen; omega) rfl
    rw [HWS.out] at this
    exact this
  case round =>
    obtain ⟨k, b, hk, rfl, rfl, HB, HO, bel⟩ := hrel
    have hsz : gx + 1 ≤ wr.heap.size := by have := bel.out.size; rw [HWS.out] at this; exact this
    have BXR : Hid (Blk wr gx 79 #[.string e.1, .string (bt e.2.bytes), .int .i64 e.2.safe]) := (bel.out.block gx (by omega)).trans BX.out
    have x0 : wr.cell? ⟨gx, 0, none⟩ = some (.string e.1) := Blk.cell BXR.out 0
    have x1 : wr.cell? ⟨gx, 1, none⟩ = some (.string (bt e.2.bytes)) := Blk.cell BXR.out 1
    have x2 : wr.cell? ⟨gx, 2, none⟩ = some (.int .i64 e.2.safe) := Blk.cell BXR.out 2
    have hlen : (insF e (L.take k)).1.length ≤ 65 := by have := (insF_len e (L.take k)).1; rw [List.length_take] at this; omega
    by_cases hlt : k < L.length
    · have ck : (k : Int) < L.length := by omega
      obtain ⟨g, rfl, hc0, hc1, hc2⟩ := (HR.out.later (B := gx + 1) (Nat.le_of_eq HWS.out) bel.out).get hlt
      have HT : Hid (insF e (L.take (k + 1)) = insStep e (insF e (L.take k)) L[k]) := by
        show insF e (L.take (k + 1)) = insStep e (insF e (L.take k)) L[k]
        rw [List.take_succ_eq_append_getElem hlt, insF_snoc]
      obtain ⟨y, hy⟩ : ∃ y, L[k] = y := ⟨_, rfl⟩
      have HUP : Hid (∀ w3, Below (gx + 1) W w3 → w3.cell? ⟨g, k * 3, none⟩ = some (.string y.1) ∧ w3.cell? ⟨g, k * 3 + 1, none⟩ = some (.string (bt y.2.bytes)) ∧ w3.cell? ⟨g, k * 3 + 2, none⟩ = some (.int .i64 y.2.safe)) := fun w3 hb => by
        obtain ⟨g', ha, q⟩ := (HR.out.later (B := gx + 1) (Nat.le_of_eq HWS.out) hb).get hlt
        injection ha with ha; injection ha with ha; subst ha
        rw [hy] at q; exact q
      rw [hy] at hc0 hc1 hc2 HT
      have hown := HO.out
      clear hy
      by_cases hins : b = false ∧ lt' e.1 y.1 = true
      · obtain ⟨rfl, hlt'⟩ := hins
        have HE : Hid (insF e (L.take (k + 1)) = ((insF e (L.take k)).1 ++ [e] ++ [y], true)) := by
          show insF e (L.take (k + 1)) = _
          rw [HT.out]; exact insStep_yes e _ y HB.out hlt'
        have hl2 : Op.bytesLess e.1.toList y.1.toList = true := hlt'
        clear HT hlt' HO
        go_wp2
        go_quiet (fail)
        have hownq := own_drewN hown nq
        have belq := below_drewN bel.out nq
        have hszq : gx + 1 ≤ (wr.drewN nq).heap.size := hsz
        have BELQ := hid belq
        clear belq
        go_wp2_with (first
          | (at_builtin; refine wpList_append_own _ rfl (.tmp 27) (.tmp 29) 75 rfl (gx + 1) 79 i0 (.agg #[.string ⟨#[]⟩, .string ⟨#[]⟩, .int .i64 0]) 3 40 Try.underlying75 hi0 hz0 hz1 hz2 rfl (by decide) _ _ _ rfl (hownq.alloc _) _ 1 1 (rcell e) rfl rfl (cellNew3 _ _ _) (rcell_one e) (by unfold maxLen; omega) (by omega) (by simp; omega) ?_; intro v' w3 hown3 hgrow3 _; have bel3 := below_grown1 BELQ.out hownq _ hszq hgrow3; have HO3 := hid (own_reel_snoc hown3); have hsz3 : gx + 1 ≤ w3.heap.size := (by have := bel3.size; rw [HWS.out] at this; exact this); obtain ⟨r0, r1, r2⟩ := HUP.out w3 bel3; have BEL3 := hid bel3; clear hown3 hgrow3 bel3)
          | (at_builtin; have hown4 := HO3.out; refine wpList_append_own _ rfl (.tmp 31) (.tmp 36) 75 rfl (gx + 1) 79 i0 (.agg #[.string ⟨#[]⟩, .string ⟨#[]⟩, .int .i64 0]) 3 40 Try.underlying75 hi0 hz0 hz1 hz2 rfl (by decide) _ _ _ rfl (hown4.alloc _) _ 1 1 (rcell y) rfl rfl (cellNew3 _ _ _) (rcell_one y) (by simp; unfold maxLen; omega) (by simp; omega) (by simp; omega) ?_; intro v'' w5 hown5 hgrow5 _; have bel5 := below_grown1 BEL3.out HO3.out _ hsz3 hgrow5; have HO5 := hid (own_reel_snoc hown5); have BEL5 := hid bel5; clear hown5 hgrow5 bel5 hown4))
        go_roundw
        case rel => exact ⟨k + 1, true, by omega, by go_num, rfl, by rw [HE.out]; rfl, by rw [HE.out]; exact HO5, BEL5⟩
        case measure => simp [intOf]; omega
      · have HE : Hid (insF e (L.take (k + 1)) = ((insF e (L.take k)).1 ++ [y], b)) := by
          show insF e (L.take (k + 1)) = _
          rw [HT.out, insStep_no e _ y (by rw [HB.out]; cases b; exact .inr (by cases hh : lt' e.1 y.1; rfl; exact absurd ⟨rfl, hh⟩ hins); exact .inl rfl), HB.out]
        have hno : b = true ∨ Op.bytesLess e.1.toList y.1.toList = false := by
          cases b
          · right; cases hh : Op.bytesLess e.1.toList y.1.toList
            · rfl
            · exact absurd ⟨rfl, hh⟩ hins
          · exact .inl rfl
        clear HT HO hins
        rcases hno with rfl | hno
        · go_wp2
          go_quiet (fail)
          have hownq := own_drewN hown nq
          have belq := below_drewN bel.out nq
          have hszq : gx + 1 ≤ (wr.drewN nq).heap.size := hsz
          have BELQ := hid belq
          clear belq
          go_wp2_with (at_builtin; refine wpList_append_own _ rfl (.tmp 31) (.tmp 36) 75 rfl (gx + 1) 79 i0 (.agg #[.string ⟨#[]⟩, .string ⟨#[]⟩, .int .i64 0]) 3 40 Try.underlying75 hi0 hz0 hz1 hz2 rfl (by decide) _ _ _ rfl (hownq.alloc _) _ 1 1 (rcell y) rfl rfl (cellNew3 _ _ _) (rcell_one y) (by unfold maxLen; omega) (by omega) (by simp; omega) ?_; intro v'' w5 hown5 hgrow5 _; have bel5 := below_grown1 BELQ.out hownq _ hszq hgrow5; have HO5 := hid (own_reel_snoc hown5); have BEL5 := hid bel5; clear hown5 hgrow5 bel5)
          go_roundw
          case rel => exact ⟨k + 1, true, by omega, by go_num, rfl, by rw [HE.out]; rfl, by rw [HE.out]; exact HO5, BEL5⟩
          case measure => simp [intOf]; omega
        · cases b
          all_goals
            go_wp2
            go_quiet (fail)
            have hownq := own_drewN hown nq
            have belq := below_drewN bel.out nq
            have hszq : gx + 1 ≤ (wr.drewN nq).heap.size := hsz
            have BELQ := hid belq
            clear belq
            go_wp2_with (at_builtin; refine wpList_append_own _ rfl (.tmp 31) (.tmp 36) 75 rfl (gx + 1) 79 i0 (.agg #[.string ⟨#[]⟩, .string ⟨#[]⟩, .int .i64 0]) 3 40 Try.underlying75 hi0 hz0 hz1 hz2 rfl (by decide) _ _ _ rfl (hownq.alloc _) _ 1 1 (rcell y) rfl rfl (cellNew3 _ _ _) (rcell_one y) (by unfold maxLen; omega) (by omega) (by simp; omega) ?_; intro v'' w5 hown5 hgrow5 _; have bel5 := below_grown1 BELQ.out hownq _ hszq hgrow5; have HO5 := hid (own_reel_snoc hown5); have BEL5 := hid bel5; clear hown5 hgrow5 bel5)
            go_roundw
            case rel => exact ⟨k + 1, _, by omega, by go_num, rfl, by rw [HE.out]; rfl, by rw [HE.out]; exact HO5, BEL5⟩
            case measure => simp [intOf]; omega
    · have ck : ¬ (k : Int) < L.length := by omega
      have hall : L.take k = L := List.take_of_length_le (by omega)
      rw [hall] at HB HO hlen
      have HFB : Hid (∀ w5, Below (gx + 1) W w5 → Below gx w w5) := fun w5 hb => HBW.out.trans (hb.mono (by omega))
      cases b
      · have HE : Hid (insE e L = (insF e L).1 ++ [e]) := by
          show insE e L = _
          unfold insE; rw [if_neg (by rw [HB.out]; simp)]
        have hown := HO.out
        clear hall HO
        go_wp2_with (at_builtin; refine wpList_append_own _ rfl (.tmp 40) (.tmp 42) 75 rfl (gx + 1) 79 i0 (.agg #[.string ⟨#[]⟩, .string ⟨#[]⟩, .int .i64 0]) 3 40 Try.underlying75 hi0 hz0 hz1 hz2 rfl (by decide) _ _ _ rfl (hown.alloc _) _ 1 1 (rcell e) rfl rfl (cellNew3 _ _ _) (rcell_one e) (by unfold maxLen; omega) (by omega) (by simp; omega) ?_; intro v'' w5 hown5 hgrow5 _; have bel5 := below_grown1 bel.out hown _ hsz hgrow5; have HO5 := hid (own_reel_snoc hown5); have BEL5 := hid bel5; clear hown5 hgrow5 bel5)
        go_ret
        exact ⟨_, rfl, by rw [HE.out]; exact own_base HO5.out (by omega), HFB.out _ BEL5.out⟩
      · have HE : Hid (insE e L = (insF e L).1) := by
          show insE e L = _
          unfold insE; rw [if_pos HB.out]
        clear hall
        go_wp2_with fail
        go_ret
        exact ⟨_, rfl, by rw [HE.out]; exact own_base HO.out (by omega), HFB.out _ bel.out⟩
theorem rvals_set : ∀ (L : List Ent) (k : Nat) (e : Ent), k < L.length → (((rvals L).set (k * 3) (.string e.1)).set (k * 3 + 1) (.string (bt e.2.bytes))).set (k * 3 + 2) (.int .i64 e.2.safe) = rvals (L.set k e)
  | _ :: _, 0, _, _ => rfl
  | y :: r, k + 1, e, h => by
    have := rvals_set r k e (by simpa using h)
    show (((rcell y ++ rvals r).set ((k + 1) * 3) _).set ((k + 1) * 3 + 1) _).set ((k + 1) * 3 + 2) _ = rcell y ++ rvals (r.set k e)
    have hl : (rcell y).length = 3 := rfl
    rw [List.set_append_right _ _ (by omega), List.set_append_right _ _ (by omega), List.set_append_right _ _ (by omega), hl, show (k + 1) * 3 - 3 = k * 3 by omega, show (k + 1) * 3 + 1 - 3 = k * 3 + 1 by omega, show (k + 1) * 3 + 2 - 3 = k * 3 + 2 by omega, this]
end Go.Proofs.Ythjomknhbfplnaa
