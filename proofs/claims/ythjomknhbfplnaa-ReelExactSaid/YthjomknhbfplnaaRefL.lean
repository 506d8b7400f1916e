/- The reference's On. -/
import Derived.Test.YthjomknhbfplnaaRefK
import Derived.Test.YthjomknhbfplnaaReelW
namespace Go.Proofs.Ythjomknhbfplnaa
open Go.RowKit Reel
set_option linter.unusedVariables false

def onStep (fs : List Int) (s : List Ent × Nat) (e : Ent) : List Ent × Nat := if e.2.bytes.length = e.2.safe then (s.1 ++ [e], s.2) else (s.1 ++ [(e.1, left e.2 (fateOf fs s.2))], s.2 + 1)
def onF (fs : List Int) (L : List Ent) : List Ent × Nat := L.foldl (onStep fs) ([], 0)
theorem onF_snoc (fs : List Int) (L : List Ent) (e : Ent) : onF fs (L ++ [e]) = onStep fs (onF fs L) e := by unfold onF; rw [List.foldl_append]; rfl
theorem onF_len (fs : List Int) (L : List Ent) : (onF fs L).1.length = L.length ∧ (onF fs L).2 ≤ L.length := by
  suffices h : ∀ (L : List Ent) (s : List Ent × Nat), (L.foldl (onStep fs) s).1.length = s.1.length + L.length ∧ (L.foldl (onStep fs) s).2 ≤ s.2 + L.length by
    have := h L ([], 0); simpa [onF] using this
  intro L
  induction L with
  | nil => intro s; simp
  | cons e r ih =>
    intro s
    rw [List.foldl_cons]
    obtain ⟨h1, h2⟩ := ih (onStep fs s e)
    unfold onStep at h1 h2 ⊢
    split at h1
    · rename_i hc
      rw [if_pos hc] at h2 ⊢
      simp only [List.length_append, List.length_cons, List.length_nil] at h1 h2 ⊢
      exact ⟨by omega, by omega⟩
    · rename_i hc
      rw [if_neg hc] at h2 ⊢
      simp only [List.length_append, List.length_cons, List.length_nil] at h1 h2 ⊢
      exact ⟨by omega, by omega⟩
theorem onF_all (fs : List Int) : ∀ (l : List ByteArray) (ts : List Spool) (a : List Ent) (i : Nat), l.length = ts.length → ((l.zip ts).foldl (onStep fs) (a, i)).1 = a ++ l.zip (onT fs i ts)
  | [], [], a, i, _ => by simp [onT]
  | x :: l, t :: ts, a, i, h => by
    rw [List.zip_cons_cons, List.foldl_cons, onT]
    by_cases hc : t.bytes.length = t.safe
    · rw [if_pos hc]
      have e : onStep fs (a, i) (x, t) = (a ++ [(x, t)], i) := by unfold onStep; exact if_pos hc
      rw [e, onF_all fs l ts _ i (by simpa using h)]
      simp
    · rw [if_neg hc]
      have e : onStep fs (a, i) (x, t) = (a ++ [(x, left t (fateOf fs i))], i + 1) := by unfold onStep; exact if_neg hc
      rw [e, onF_all fs l ts _ (i + 1) (by simpa using h)]
      by_cases hf : fs = []
      · subst hf
        have hi : ∀ (ts : List Spool) (i j : Nat), onT [] i ts = onT [] j ts := by
          intro ts
          induction ts with
          | nil => intro i j; rfl
          | cons t r ih => intro i j; unfold onT; simp; rw [ih i j]
        rw [if_pos rfl, if_pos rfl, hi ts (i + 1) i]
        simp [fateOf]
      · rw [if_neg hf, if_neg hf]
        simp [fateOf, hf]
theorem on_ents (S : St) (hok : S.Ok) (fs : List Int) (hd : S.down = true) : (onS S fs).ents = (onF fs S.ents).1 := by
  unfold onS onF St.ents
  rw [if_neg (by rw [hd]; simp)]
  have := onF_all fs S.l S.ts [] 0 hok.len.symm
  rw [this]; rfl
theorem rvals3 (w : World) (g : Nat) (t : TypeId) (e e' : Ent) (h : Blk w g t #[.string e.1, .string (bt e.2.bytes), .int .i64 e.2.safe]) :
    Blk (((w.setCell ⟨g, 0, none⟩ (.string e'.1)).setCell ⟨g, 1, none⟩ (.string (bt e'.2.bytes))).setCell ⟨g, 2, none⟩ (.int .i64 e'.2.safe)) g t #[.string e'.1, .string (bt e'.2.bytes), .int .i64 e'.2.safe] := by
  have := ((h.set 0 (.string e'.1)).set 1 (.string (bt e'.2.bytes))).set 2 (.int .i64 e'.2.safe)
  simpa using this
theorem cellNew3s (w : World) (o : Obj) (e : Ent) (t : TypeId) : ∀ j u, (rcell e)[j]? = some u → ((w.alloc o).alloc (.cells #[.string e.1, .string (bt e.2.bytes), .int .i64 e.2.safe] t)).cell? ((⟨w.heap.size + 1, 0, none⟩ : Addr).add j) = some u := by
  have := cellNew3 (w.alloc o) e t
  rw [World.size_alloc] at this
  exact this
theorem cellNew3h (w : World) (H : Nat) (hH : w.heap.size = H) (e : Ent) (t : TypeId) : ∀ j u, (rcell e)[j]? = some u → (w.alloc (.cells #[.string e.1, .string (bt e.2.bytes), .int .i64 e.2.safe] t)).cell? ((⟨H, 0, none⟩ : Addr).add j) = some u := by
  subst hH; exact cellNew3 w e t
section
variable {w w1 w2 W : World} {u : Nat} {v v1 : Value} {S S1 : St} {x : ByteArray}
set_option maxRecDepth 100000 in
set_option maxHeartbeats 8000000 in
theorem ron_any (a : Option Addr) (n c : Nat) (fs : List Int) (h : RefAt w u v S) (hI : IntsAt w a n fs) (hFa : n ≠ 0 → ∀ b off, a = some ⟨b, off, none⟩ → b ≠ u) :
    Calls Try.prog 31 #[.pointer (some ⟨u, 0, none⟩), .slice a n c] w fun e w' => e = .returned (.tuple #[]) ∧ RStep w w' u v (onS S fs) := by
  obtain ⟨c0, -, c2, -, -, -⟩ := h.cells
  have f2 := Blk.frozen h.blk 2
  by_cases hd : S.down = true
  · rw [hd] at c2
    obtain ⟨i0, hi0, hz0, hz1, hz2⟩ := info_parts Try.infoRl
    have hfew := ents_few h.ok
    obtain ⟨W1, hW1⟩ : ∃ W1, w.setCell ⟨u, 2, none⟩ (.bool false) = W1 := ⟨_, rfl⟩
    obtain ⟨S1, hS1⟩ : ∃ S1 : St, { S with down := false } = S1 := ⟨_, rfl⟩
    have O1 : Only (· = u) w W1 := by rw [← hW1]; exact (Only.refl (· = u) w).setCell (p := ⟨u, 2, none⟩) (.inl rfl) _
    have hS1ok : S1.Ok := by rw [← hS1]; exact h.ok.with_ rfl rfl rfl h.ok.room
    have hS1e : S1.ents = S.ents := by rw [← hS1]; rfl
    have R1 : Hid (RefAt W1 u v S1) := by
      refine ⟨?_, by rw [hS1e]; exact own_only h.row O1 (fun k hk e => h.ne (by rw [hk, e])), hS1ok⟩
      have := Blk.set h.blk 2 (.bool false)
      rw [← hW1, ← hS1]; simpa using this
    have HO1 := hid O1
    have HIW : Hid (IntsAt W1 a n fs) := by
      obtain ⟨i1, i2, i3, i4⟩ := hI
      refine ⟨i1, i2, i3, ?_⟩
      by_cases hn0 : n = 0
      · exact .inl hn0
      · rcases i4 with i4 | ⟨b, off, ha, hc⟩
        · exact .inl i4
        · exact .inr ⟨b, off, ha, fun j hj => O1.cell (hc j hj) (fun e => hFa hn0 b off ha e)⟩
    have hfsn : fs.length = n := hI.1
    have hn63 := hI.2.1
    have HFS : Hid (∀ y ∈ fs, -9223372036854775808 ≤ y ∧ y ≤ 9223372036854775807) := hI.2.2.1
    have HEACH : Hid (∀ k (hk : k < S.ents.length), S.ents[k].2.bytes.length ≤ 4194304 ∧ S.ents[k].2.safe ≤ S.ents[k].2.bytes.length) := fun k hk => by
      obtain ⟨_, h2, e⟩ := ents_get (S := S) k hk
      rw [e]; exact h.ok.each _ (List.getElem_mem _)
    have HON : Hid ((onS S fs).ents = (onF fs S.ents).1) := on_ents S h.ok fs hd
    have HOK := hid (on_ok h.ok fs)
    have HAL : Hid (Alike16 S1 (onS S fs)) := by
      rw [← hS1]; unfold onS; rw [if_neg (by rw [hd]; simp)]; exact ⟨rfl, rfl, rfl, rfl, rfl⟩
    obtain ⟨S2, hS2⟩ : ∃ S2, onS S fs = S2 := ⟨_, rfl⟩
    rw [hS2] at HON HOK HAL ⊢
    obtain ⟨va, vc, rfl, hvc, -⟩ := own_reels h.row
    have HR : Hid (ReelsAt W1 va S.ents.length S.ents) := by
      obtain ⟨va', vc', e, -, hR'⟩ := own_reels R1.out.row
      rw [hS1e] at e hR'
      injection e with e1 e2 e3
      rw [e1]; exact hR'
    have hWsz : W1.heap.size = w.heap.size := by rw [← hW1]; simp [World.setCell]
    have HWSZ := hid hWsz
    have HFA := hid hFa
    have HS1E := hid hS1e
    have HW1 := hid hW1
    obtain ⟨L, hL⟩ : ∃ L, S.ents = L := ⟨_, rfl⟩
    have HLL := hid hL
    rw [hL] at hfew hvc HON HR HS1E c0
    have HEACH' : Hid (∀ k (hk : k < L.length), L[k].2.bytes.length ≤ 4194304 ∧ L[k].2.safe ≤ L[k].2.bytes.length) := by subst hL; exact HEACH
    have hwu : w.heap.size ≠ u := by have := h.lt; omega
    clear h hI hFa hW1 hS1 O1 hS1ok hS1e hS2 hWsz HEACH hL hd
    go_enter Try.func31, Try.ntmps31
    go_wp2_with fail
    rw [HW1.out]
    have hwsz := HWSZ.out
    go_loopw [4, 5, 6] (fun cv ov iv wr => ∃ (k : Nat), k ≤ L.length ∧ iv = .int .i64 k ∧ cv = .int .i64 (onF fs (L.take k)).2 ∧ Hid (wr.ownsRow w.heap.size 79 3 ov (onF fs (L.take k)).1.length (rvals (onF fs (L.take k)).1)) ∧ Hid (Below w.heap.size W1 wr)) (fun _ _ iv _ => L.length - (intOf iv).toNat)
    case atStart =>
      refine ⟨0, by omega, rfl, rfl, ?_, (Below.refl _ _).alloc (Nat.le_of_eq HWSZ.out.symm) _⟩
      have := World.ownsRow_made (e := 79) (size := 3) (base := w.heap.size) W1 #[] 0 (Nat.le_of_eq HWSZ.out.symm) (by unfold maxLen; omega) rfl
      rw [HWSZ.out] at this
      exact this
    case round =>
      obtain ⟨k, hk, rfl, rfl, HO, bel⟩ := hrel
      have hszr : w.heap.size ≤ wr.heap.size := by have := bel.out.size; rw [HWSZ.out] at this; exact this
      have RW : Hid (RefAt wr u (.slice va S.ents.length vc) S1) := R1.out.later (bel.out.mono (Nat.le_of_eq HWSZ.out))
      obtain ⟨d0, -, -, -, -, -⟩ := RW.out.cells
      rw [HLL.out] at d0
      obtain ⟨hl1, hl2⟩ := onF_len fs (L.take k)
      have hlen : (onF fs (L.take k)).1.length = k := by rw [hl1, List.length_take]; omega
      have hcnt : (onF fs (L.take k)).2 ≤ 64 := by rw [List.length_take] at hl2; omega
      have hle : (onF fs (L.take k)).1.length ≤ 64 := by omega
      by_cases hlt : k < L.length
      · have ck : (k : Int) < L.length := by omega
        have ck0 : (0 : Int) ≤ (k : Int) := by omega
        obtain ⟨g, rfl, hc0, hc1, hc2⟩ := (HR.out.later (Nat.le_of_eq HWSZ.out) bel.out).get hlt
        have hE := HEACH'.out k hlt
        have HT : Hid (onF fs (L.take (k + 1)) = onStep fs (onF fs (L.take k)) L[k]) := by
          show onF fs (L.take (k + 1)) = onStep fs (onF fs (L.take k)) L[k]
          rw [List.take_succ_eq_append_getElem hlt, onF_snoc]
        obtain ⟨y, hy⟩ : ∃ y, L[k] = y := ⟨_, rfl⟩
        rw [hy] at hc0 hc1 hc2 HT hE
        obtain ⟨hE1, hE2⟩ := hE
        have hbs : (bt y.2.bytes).size = y.2.bytes.length := bt_size _
        have HBS := hid hbs
        have hbz : (bt y.2.bytes).size ≤ 4194304 := by omega
        clear hy hl1 hl2 hbs
        obtain ⟨q, hq⟩ : ∃ q, (onF fs (L.take k)).2 = q := ⟨_, rfl⟩
        rw [hq] at hcnt ⊢
        by_cases hsafe : y.2.bytes.length = y.2.safe
        · have HE : Hid (onF fs (L.take (k + 1)) = ((onF fs (L.take k)).1 ++ [y], q)) := by
            show onF fs (L.take (k + 1)) = _
            rw [HT.out]; unfold onStep; rw [if_pos hsafe, hq]
          have g1 : ¬ (y.2.safe : Int) < (bt y.2.bytes).size := by rw [HBS.out]; omega
          have HOO : Hid (wr.ownsRow w.heap.size 79 3 u5 (onF fs (L.take k)).1.length (rvals (onF fs (L.take k)).1)) := HO
          have HOA : Hid (∀ o, (wr.alloc o).ownsRow w.heap.size 79 3 u5 (onF fs (L.take k)).1.length (rvals (onF fs (L.take k)).1)) := fun o => HO.out.alloc o
          have BELA : Hid (∀ o, Below w.heap.size W1 (wr.alloc o)) := fun o => bel.out.alloc hszr o
          clear HT hsafe hq hE1 hE2
          go_wp2_with (at_builtin; refine wpList_append_own _ rfl (.tmp 59) (.tmp 61) 75 rfl w.heap.size 79 i0 (.agg #[.string ⟨#[]⟩, .string ⟨#[]⟩, .int .i64 0]) 3 40 Try.underlying75 hi0 hz0 hz1 hz2 rfl (by decide) _ _ _ rfl ((HOA.out _).alloc _) _ 1 1 (rcell y) rfl rfl (cellNew3s _ _ _ _) (rcell_one y) (by unfold maxLen; omega) (by omega) (by simp; omega) ?_; intro v' w5 hown5 hgrow5 _; have bel5 := below_grown1 (BELA.out _) (HOA.out _) _ (by simp; omega) hgrow5; have HO5 := hid (own_reel_snoc hown5); have BEL5 := hid bel5; clear hown5 hgrow5 bel5)
          go_roundw
          case rel => exact ⟨k + 1, by omega, by go_num, by rw [HE.out], by rw [HE.out]; exact HO5, BEL5⟩
          case measure => simp [intOf]; omega
        · obtain ⟨fv, hfv⟩ : ∃ fv, fateOf fs q = fv := ⟨_, rfl⟩
          obtain ⟨y', hy'⟩ : ∃ y' : Ent, (y.1, left y.2 fv) = y' := ⟨_, rfl⟩
          have HE : Hid (onF fs (L.take (k + 1)) = ((onF fs (L.take k)).1 ++ [y'], q + 1)) := by
            show onF fs (L.take (k + 1)) = _
            rw [HT.out]; unfold onStep; rw [if_neg hsafe, hq, hfv, hy']
          have g1 : (y.2.safe : Int) < (bt y.2.bytes).size := by rw [HBS.out]; omega
          have hfb : -9223372036854775808 ≤ fv ∧ fv ≤ 9223372036854775807 := by
            rw [← hfv]; unfold fateOf
            split
            · omega
            · rename_i hne
              have hpos : 0 < fs.length := List.length_pos_iff.2 hne
              have hlt' : q % fs.length < fs.length := Nat.mod_lt _ hpos
              rw [List.getD_eq_getElem?_getD, List.getElem?_eq_getElem hlt']
              exact HFS.out _ (List.getElem_mem _)
          have HLF : Hid (∀ W', Calls Try.prog 58 #[.agg #[.string y.1, .string (bt y.2.bytes), .int .i64 y.2.safe], .int .i64 fv] W' fun en w' => en = .returned (.agg #[.string y'.1, .string (bt y'.2.bytes), .int .i64 y'.2.safe]) ∧ Below W'.heap.size W' w') := fun W' => by
            have := rleft_any y fv W' hfb.1 hfb.2 hE2 hE1
            rw [← hy']; exact this
          have HOA : Hid (∀ w4, Below (wr.alloc (.cells #[.string y.1, .string (bt y.2.bytes), .int .i64 y.2.safe] 79)).heap.size (wr.alloc (.cells #[.string y.1, .string (bt y.2.bytes), .int .i64 y.2.safe] 79)) w4 →
              Hid (Blk w4 wr.heap.size 79 #[.string y.1, .string (bt y.2.bytes), .int .i64 y.2.safe]) ∧
              Hid ((((w4.setCell ⟨wr.heap.size, 0, none⟩ (.string y'.1)).setCell ⟨wr.heap.size, 1, none⟩ (.string (bt y'.2.bytes))).setCell ⟨wr.heap.size, 2, none⟩ (.int .i64 y'.2.safe)).ownsRow w.heap.size 79 3 u5 (onF fs (L.take k)).1.length (rvals (onF fs (L.take k)).1)) ∧
              Hid (Below w.heap.size W1 (((w4.setCell ⟨wr.heap.size, 0, none⟩ (.string y'.1)).setCell ⟨wr.heap.size, 1, none⟩ (.string (bt y'.2.bytes))).setCell ⟨wr.heap.size, 2, none⟩ (.int .i64 y'.2.safe))) ∧ wr.heap.size + 1 ≤ w4.heap.size) := fun w4 hb => by
            have hbk : Blk w4 wr.heap.size 79 #[.string y.1, .string (bt y.2.bytes), .int .i64 y.2.safe] := (hb.block _ (by simp)).trans (Blk.new _ _ _)
            have ho3 : Only (· = wr.heap.size) w4 (((w4.setCell ⟨wr.heap.size, 0, none⟩ (.string y'.1)).setCell ⟨wr.heap.size, 1, none⟩ (.string (bt y'.2.bytes))).setCell ⟨wr.heap.size, 2, none⟩ (.int .i64 y'.2.safe)) := (((Only.refl (· = wr.heap.size) w4).setCell (p := ⟨wr.heap.size, 0, none⟩) (.inl rfl) _).setCell (p := ⟨wr.heap.size, 1, none⟩) (.inl rfl) _).setCell (p := ⟨wr.heap.size, 2, none⟩) (.inl rfl) _
            have hb4 : Below w.heap.size W1 w4 := (bel.out.alloc hszr _).trans (hb.mono (by simp; omega))
            refine ⟨hbk, own_only (own_below (HO.out.alloc _) hb) ho3 (fun q hq e => ?_), hb4.trans (ho3.below (fun q e => by rw [e]; exact hszr) ?_), ?_⟩
            · have := own_lt HO.out hq; rw [e] at this; omega
            · have := hb4.size; rw [HWSZ.out] at this; exact this
            · have := hb.size; simp at this; exact this
          clear HT hsafe hq hE1 hE2 hy'
          have hc64 : q < 64 ∨ 64 ≤ q := by omega
          have ew : IntKind.i64.wrap ((q : Int) + 1) = (q : Int) + 1 := by rw [IntKind.wrap_i64]; omega
          have hqn : ((q : Int) + 1) = ((q + 1 : Nat) : Int) := by omega
          have HQN := hid hqn
          clear hqn hc64
          by_cases hn0 : n = 0
          · have hfv0 : fv = 0 := by
              rw [← hfv]; unfold fateOf; rw [if_pos (by apply List.length_eq_zero_iff.1; omega)]
            subst hfv0
            have gn : ¬ (0 : Int) < n := by omega
            clear hfv hfb hn0
            go_wp2_with (first
              | (go_at_call 58; refine (HLF.out _).mono ?_; rintro e w4 ⟨rfl, hb4⟩; obtain ⟨B4, OW4, BE4, hs4⟩ := HOA.out w4 hb4; have z0 : w4.cell? ⟨wr.heap.size, 0, none⟩ = some (.string y.1) := Blk.cell B4.out 0; have z1 : w4.cell? ⟨wr.heap.size, 1, none⟩ = some (.string (bt y.2.bytes)) := Blk.cell B4.out 1; have z2 : w4.cell? ⟨wr.heap.size, 2, none⟩ = some (.int .i64 y.2.safe) := Blk.cell B4.out 2; have y0 : w4.frozen? ⟨wr.heap.size, 0, none⟩ = false := Blk.frozen B4.out 0; have y1 : w4.frozen? ⟨wr.heap.size, 1, none⟩ = false := Blk.frozen B4.out 1; have y2 : w4.frozen? ⟨wr.heap.size, 2, none⟩ = false := Blk.frozen B4.out 2; clear hb4)
              | (at_builtin; refine wpList_append_own _ rfl (.tmp 59) (.tmp 61) 75 rfl w.heap.size 79 i0 (.agg #[.string ⟨#[]⟩, .string ⟨#[]⟩, .int .i64 0]) 3 40 Try.underlying75 hi0 hz0 hz1 hz2 rfl (by decide) _ _ _ rfl (OW4.out.alloc _) _ 1 1 (rcell y') rfl rfl (cellNew3h _ _ (by simp [World.setCell]) _ _) (rcell_one y') (by unfold maxLen; omega) (by omega) (by simp [World.setCell]; omega) ?_; intro v' w5 hown5 hgrow5 _; have bel5 := below_grown1 BE4.out OW4.out _ (by simp [World.setCell]; omega) hgrow5; have HO5 := hid (own_reel_snoc hown5); have BEL5 := hid bel5; clear hown5 hgrow5 bel5))
            go_roundw
            case rel => exact ⟨k + 1, by omega, by go_num, by rw [HE.out]; go_num, by rw [HE.out]; exact HO5, BEL5⟩
            case measure => simp [intOf]; omega
          · obtain ⟨fb, foff, rfl, hfc⟩ : ∃ b off, a = some ⟨b, off, none⟩ ∧ ∀ j, j < n → wr.cell? ⟨b, off + j, none⟩ = some (.int .i64 (fs.getD j 0)) := by
              obtain ⟨-, -, -, i4⟩ := HIW.out
              rcases i4 with i4 | ⟨b, off, ha, hc⟩
              · exact absurd i4 hn0
              · refine ⟨b, off, ha, fun j hj => ?_⟩
                have hcj := hc j hj
                have hblt := World.block_lt_of_cell? _ _ hcj
                rw [HWSZ.out] at hblt
                exact (World.cell?_of_block (bel.out.block b hblt)).trans hcj
            obtain ⟨m, hm⟩ : ∃ m, q % n = m := ⟨_, rfl⟩
            have hmlt : m < n := by rw [← hm]; exact Nat.mod_lt _ (by omega)
            have hfcm := hfc m hmlt
            have hgd : fs.getD m 0 = fv := by
              rw [← hfv]; unfold fateOf
              rw [if_neg (by intro e; rw [e] at hfsn; simp at hfsn; omega), hfsn, hm]
            rw [hgd] at hfcm
            have hfca : (wr.alloc (.cells #[.string y.1, .string (bt y.2.bytes), .int .i64 y.2.safe] 79)).cell? ⟨fb, foff + m, none⟩ = some (.int .i64 fv) := (World.cell?_of_block (Below.heap_alloc _ _ _ (World.block_lt_of_cell? _ _ hfcm))).trans hfcm
            have tm : (q : Int).tmod (n : Int) = (m : Int) := by rw [← hm]; exact (Int.ofNat_tmod _ _).symm
            have gn : (0 : Int) < n := by omega
            have gn0 : ((n : Int) == 0) = false := by rw [beq_eq_false_iff_ne]; omega
            have gm0 : (0 : Int) ≤ (m : Int) := by omega
            have gm1 : (m : Int) < n := by omega
            clear hfv hfb hm hfc hgd
            go_wp2_with (first
              | (go_at_call 58; refine (HLF.out _).mono ?_; rintro e w4 ⟨rfl, hb4⟩; obtain ⟨B4, OW4, BE4, hs4⟩ := HOA.out w4 hb4; have z0 : w4.cell? ⟨wr.heap.size, 0, none⟩ = some (.string y.1) := Blk.cell B4.out 0; have z1 : w4.cell? ⟨wr.heap.size, 1, none⟩ = some (.string (bt y.2.bytes)) := Blk.cell B4.out 1; have z2 : w4.cell? ⟨wr.heap.size, 2, none⟩ = some (.int .i64 y.2.safe) := Blk.cell B4.out 2; have y0 : w4.frozen? ⟨wr.heap.size, 0, none⟩ = false := Blk.frozen B4.out 0; have y1 : w4.frozen? ⟨wr.heap.size, 1, none⟩ = false := Blk.frozen B4.out 1; have y2 : w4.frozen? ⟨wr.heap.size, 2, none⟩ = false := Blk.frozen B4.out 2; clear hb4)
              | (at_builtin; refine wpList_append_own _ rfl (.tmp 59) (.tmp 61) 75 rfl w.heap.size 79 i0 (.agg #[.string ⟨#[]⟩, .string ⟨#[]⟩, .int .i64 0]) 3 40 Try.underlying75 hi0 hz0 hz1 hz2 rfl (by decide) _ _ _ rfl (OW4.out.alloc _) _ 1 1 (rcell y') rfl rfl (cellNew3h _ _ (by simp [World.setCell]) _ _) (rcell_one y') (by unfold maxLen; omega) (by omega) (by simp [World.setCell]; omega) ?_; intro v' w5 hown5 hgrow5 _; have bel5 := below_grown1 BE4.out OW4.out _ (by simp [World.setCell]; omega) hgrow5; have HO5 := hid (own_reel_snoc hown5); have BEL5 := hid bel5; clear hown5 hgrow5 bel5))
            go_roundw
            case rel => exact ⟨k + 1, by omega, by go_num, by rw [HE.out]; go_num, by rw [HE.out]; exact HO5, BEL5⟩
            case measure => simp [intOf]; omega
      · have ck : ¬ (k : Int) < L.length := by omega
        have hall : L.take k = L := List.take_of_length_le (by omega)
        rw [hall] at HO
        have e0 : wr.frozen? ⟨u, 0, none⟩ = false := Blk.frozen RW.out.blk 0
        obtain ⟨oa, oc, rfl, hoc, -⟩ := own_reels HO.out
        have HFIN : Hid (RStep w (wr.setCell ⟨u, 0, none⟩ (.slice oa (onF fs L).1.length oc)) u (.slice va S.ents.length vc) S2) := by
          refine RStep.next R1.out HO1.out (.inl rfl) (R1.out.store (bel.out.mono (Nat.le_of_eq HWSZ.out)) ?_ HAL.out HON.out HOK.out)
          rw [HWSZ.out]; exact HO.out
        clear hall hlen
        go_wp2_with fail
        go_end0
        exact ⟨rfl, HFIN.out⟩
  · have hd' : S.down = false := by simpa using hd
    rw [hd'] at c2
    have e : onS S fs = S := by unfold onS; rw [if_pos hd']
    rw [e]
    have HS : Hid (RStep w w u v S) := ⟨v, h, Only.refl _ _, .inl rfl⟩
    clear h hI hFa hd hd' e c0
    go_enter Try.func31, Try.ntmps31
    go_wp2
    exact bodyPost_ret (results_none rfl _ _ _) rfl ⟨rfl, HS.out⟩
end
end Go.Proofs.Ythjomknhbfplnaa
