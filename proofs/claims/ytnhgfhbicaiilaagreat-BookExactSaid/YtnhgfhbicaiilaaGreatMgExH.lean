/- Texts in a row: BkExact. -/
import Derived.Test.YtnhgfhbicaiilaaGreatMgExG
/- The walk of BookExact. -/
namespace Go.Proofs.YtnhgfhbicaiilaaGreat
open Go.RowKit Book Reel
set_option linter.unusedVariables false

theorem RefAt.only2 {w w' : World} {u : Nat} {S : St} {F : Nat → Prop} (h : RefAt w u (.slice none 0 0) S) (ho : Only F w w') (hu : ¬ F u) : RefAt w' u (.slice none 0 0) S :=
  ⟨Blk.only h.blk ho hu, own_only h.row ho (fun k hk e => by simp [Value.ownBlock] at hk), h.ok⟩
section
variable {B n m life p b b' u r r' : Nat} {w0 wx w' : World} {K K' G : Nat → Prop} {S S' T T' : St} {dead dead' d d' : Bool}
theorem Twin.open_ (h : Twin B w0 wx p b u r K S T n life dead dead') (hn : n + 2 < big) :
    Calls Tryz.prog 7 #[.pointer (some ⟨p, 0, none⟩), .string J] wx fun e w' => ∃ K', (∀ k, K k → K' k) ∧ Twin B w0 w' p b u r K' (openS S J).1 T (n + 4) life dead dead' ∧ Only (fun k => ¬ K k) wx w' ∧
      (((openS S J).2.1 = 0 ∧ ∃ b' a c, e = .returned (.tuple #[.pointer (some ⟨b', 0, none⟩), .slice a (openS S J).2.2.length c, .int .i64 0]) ∧ BookAt w' b' p J (openS S J).1.life false ∧ K' b' ∧ B ≤ b' ∧ GridIn (fun k => wx.heap.size ≤ k) w' a (openS S J).2.2.length (grid (openS S J).2.2))
      ∨ ((openS S J).2.1 ≠ 0 ∧ e = .returned (.tuple #[.pointer none, .slice none 0 0, .int .i64 (openS S J).2.1]))) := by
  refine (open_K K p S J wx n h.mid.fits hn h.mid.on.disk (by decide)).mono fun e w' ⟨hp, ho⟩ => ?_
  have hf := open_fits h.mid.fits J
  rcases hp with ⟨e0, b', a, c, G, rfl, hd, hbk, hGb, hgr, hG⟩ | ⟨e0, rfl, hd⟩
  · have ht := h.disk (hd.less (fun k hk => .inl hk)) ho hf (by omega)
    refine ⟨fun k => K k ∨ G k, fun k hk => .inl hk, ?_, ho, .inl ⟨e0, b', a, c, rfl, hbk, .inr hGb, Nat.le_trans h.mid.size (hG b' hGb).1, hgr.mono (fun k hk => (hG k hk).1)⟩⟩
    obtain ⟨v, h1, h2⟩ := ht.ref
    exact ⟨⟨⟨hd, ht.mid.on.book, .inl ht.mid.on.kb⟩, hf, fun k hk => .inl (h.mid.low k hk), ht.mid.bb, ht.mid.bel, ht.mid.size⟩, ⟨v, h1, fun k hk => ⟨.inl (h2 k hk).1, (h2 k hk).2⟩⟩, ht.bk, .inl ht.ku, .inl ht.kr, ht.bu, ht.br, ht.ur, ht.fitsT, ht.hl⟩
  · exact ⟨K, fun k hk => hk, h.disk hd ho hf (by omega), ho, .inr ⟨e0, rfl⟩⟩
theorem Twin.ropen (h : Twin B w0 wx p b u r K S T n life dead dead') (hn : n + 3 < big) (hf : (openS T J).1.Fits n) (hfT : T.Fits n) :
    Calls Tryz.prog 8 #[.pointer (some ⟨u, 0, none⟩), .string J] wx fun e w' => Twin B w0 w' p b u r (Grew K wx w') S (openS T J).1 n life dead dead' ∧ Only (· = u) wx w' ∧
      (((openS T J).2.1 = 0 ∧ ∃ r' a c, e = .returned (.tuple #[.pointer (some ⟨r', 0, none⟩), .slice a (openS T J).2.2.length c, .int .i64 0]) ∧ RBk w' r' u J (openS T J).1.life false ∧ Grew K wx w' r' ∧ B ≤ r' ∧ GridIn (Grew K wx w') w' a (openS T J).2.2.length (grid (openS T J).2.2))
      ∨ ((openS T J).2.1 ≠ 0 ∧ e = .returned (.tuple #[.pointer none, .slice none 0 0, .int .i64 (openS T J).2.1]))) := by
  have hh := h
  obtain ⟨v, h1, h2⟩ := h.ref
  refine (ropen_any h1 hfT hn (by decide) (by decide)).mono fun e w' ⟨hp, hs⟩ => ?_
  obtain ⟨v', a1, a2, a3⟩ := hs
  have hbu := h.bnu
  have tw : Twin B w0 w' p b u r (Grew K wx w') S (openS T J).1 n life dead dead' := by
    refine ⟨h.mid.step a2 (fun k hk => ?_), ⟨v', a1, fun k hk => ?_⟩, Blk.only h.bk a2 (fun e => h.ur e.symm), .inl h.ku, .inl h.kr, h.bu, h.br, h.ur, hf, h.hl⟩
    · subst hk
      exact ⟨h.ku, h.bu, Ne.symm hbu⟩
    · rcases a3 with rfl | a3
      · exact ⟨.inl (h2 k hk).1, (h2 k hk).2⟩
      · exact ⟨.inr ⟨a3 k hk, (a1.row.lt k hk).2⟩, Nat.le_trans h.mid.size (a3 k hk)⟩
  refine ⟨tw, a2, ?_⟩
  rcases hp with ⟨e0, r', a, c, rfl, hb, hr, hg⟩ | ⟨e0, rfl⟩
  · exact .inl ⟨e0, r', a, c, rfl, hb, .inr ⟨hr, Blk.lt hb⟩, Nat.le_trans h.mid.size hr, hg.mono (fun k hk => .inr hk)⟩
  · exact .inr ⟨e0, rfl⟩
theorem Twin.renewed {L : Nat} (h : Twin B w0 wx p b u r K S T n life dead dead') (hb' : BookAt wx b' p J L false) (kb : K b') (bb : B ≤ b') (hr' : RBk wx r' u J L false) (kr : K r') (br : B ≤ r') (hl : L ≤ 9223372036854775807) : Twin B w0 wx p b' u r' K S T n L false false := by
  obtain ⟨v, h1, h2⟩ := h.ref
  exact ⟨⟨⟨h.mid.on.disk, hb', kb⟩, h.mid.fits, h.mid.low, bb, h.mid.bel, h.mid.size⟩, ⟨v, h1, h2⟩, hr', h.ku, kr, h.bu, br, Blk.ne h1.blk hr' (by decide), h.fitsT, hl⟩
end
theorem same_grid {G G' : Nat → Prop} {a a' : Option Addr} {c c' n : Nat} (L : List (List ByteArray)) (w : World) (h : GridIn G w a n L) (h' : GridIn G' w a' n L) (hn : L.length = n) :
    Calls Tryz.prog 14 #[.slice a n c, .slice a' n c'] w fun e w' => e = .returned (.bool true) ∧ Below w.heap.size w w' :=
  (same_any _ _ _ _ _ _ L L w h h').mono fun e w' ⟨h1, h2⟩ => ⟨by rw [h1]; simp, h2⟩
/-- a call at a place in memory -/
structure CallAt (w : World) (b o : Nat) (kind : Int) (a : Option Addr) (m c : Nat) (rs : List ByteArray) (nn : Int) (fa : Option Addr) (fn fc : Nat) (fs : List Int) : Prop where
  ck : w.cell? ⟨b, o, none⟩ = some (.int .i64 kind)
  cr : w.cell? ⟨b, o + 1, none⟩ = some (.slice a m c)
  cn : w.cell? ⟨b, o + 2, none⟩ = some (.int .i64 nn)
  cf : w.cell? ⟨b, o + 3, none⟩ = some (.slice fa fn fc)
  strs : StrsAt w a m rs
  sz : ∀ x ∈ rs, x.size ≤ 140737488355328
  ints : IntsAt w fa fn fs
  wn : -9223372036854775808 ≤ nn ∧ nn ≤ 9223372036854775807
def CallsAt (w : World) (a : Option Addr) (n : Nat) : Prop := n ≤ 9223372036854775807 ∧ (n = 0 ∨ ∃ b off, a = some ⟨b, off, none⟩ ∧ ∀ j, j < n → ∃ kind ra rm rc rs nn fa fn fc fs, CallAt w b (off + j * 4) kind ra rm rc rs nn fa fn fc fs)
theorem calls_get {w : World} {a : Option Addr} {n : Nat} (h : CallsAt w a n) {j : Nat} (hj : j < n) : ∃ b off kind ra rm rc rs nn fa fn fc fs, a = some ⟨b, off, none⟩ ∧ b < w.heap.size ∧ CallAt w b (off + j * 4) kind ra rm rc rs nn fa fn fc fs := by
  obtain ⟨b, off, ha, hc⟩ := h.2.resolve_left (by omega)
  obtain ⟨kind, ra, rm, rc, rs, nn, fa, fn, fc, fs, hd⟩ := hc j hj
  exact ⟨b, off, kind, ra, rm, rc, rs, nn, fa, fn, fc, fs, ha, World.block_lt_of_cell? w _ hd.ck, hd⟩
/-- where the law stands ahead of a round -/
def ExactAt (B : Nat) (w0 w : World) (p u : Nat) (bv rv : Value) (n : Nat) : Prop :=
  ∃ (K : Nat → Prop) (b r : Nat) (S : St) (life : Nat) (dead : Bool), bv = .pointer (some ⟨b, 0, none⟩) ∧ rv = .pointer (some ⟨r, 0, none⟩) ∧ Twin B w0 w p b u r K S S n life dead dead
set_option maxRecDepth 100000 in
set_option maxHeartbeats 8000000 in
theorem walk_BookExact (a0 : Option Addr) (n0 c0 : Nat) (w : World) (h0 : CallsAt w a0 n0) :
    Calls Tryz.prog 3 #[.slice a0 n0 c0] w fun e w' => e = .returned (.bool true) ∧ Below w.heap.size w w' := by
  obtain ⟨B, hB⟩ : ∃ B, w.heap.size = B := ⟨_, rfl⟩
  have HBW := hid hB
  have HW0 := hid h0
  have hn0 := h0.1
  rw [hB]; clear hB h0
  go_enter Tryz.func3, Tryz.ntmps3
  go_wp2_with fail
  refine (awake17_any _).mono ?_; rintro e w1 ⟨rfl, b1⟩
  have L1 : Hid (Below B w w1) := by rw [HBW.out] at b1; exact b1
  have B1 : B ≤ w1.heap.size := by have := L1.out.size; rw [HBW.out] at this; exact this
  clear b1
  go_wp2_with fail
  refine (new_K (K := fun k => k < B) 1048576 (fun k h => Nat.lt_of_lt_of_le h B1)).mono ?_; rintro e w2 ⟨p, rfl, d0, b1⟩
  have L2 : Hid (Below B w w2) := L1.out.trans (b1.mono B1)
  have B2 : B ≤ w2.heap.size := Nat.le_trans B1 b1.size
  have D0 := hid d0
  clear d0 b1 L1 B1
  go_wp2_with fail
  refine (rnew_any 1048576 w2).mono ?_; rintro e w3 ⟨rfl, r3, b3⟩
  obtain ⟨u, hu⟩ : ∃ u, w2.heap.size = u := ⟨_, rfl⟩
  rw [hu] at r3 B2 ⊢
  have R3 := hid r3
  have hul : u < w3.heap.size := Blk.lt r3.blk
  have D3 : Hid (DK (fun k => k < B ∨ k = u) w3 p (new 1048576)) := DK.more (G := (· = u)) D0.out b3 (fun k e => ⟨by omega, by omega⟩)
  have L3 : Hid (Below B w w3) := L2.out.trans (b3.mono (by omega))
  have B3 : B ≤ w3.heap.size := by omega
  have F0 : Hid ((new 1048576).Fits 0) := ⟨Nat.le_refl _, Nat.le_refl _, by show (0 : Nat) ≤ _; omega⟩
  have HOP : Hid (openS (new 1048576) J = (new 1048576, 0, [])) := calm_open (calm_new 1048576)
  obtain ⟨S0, hS0⟩ : ∃ S0, new 1048576 = S0 := ⟨_, rfl⟩
  have HL0 : Hid (S0.life = 0) := by rw [← hS0]; rfl
  rw [hS0] at D3 R3 F0 HOP
  clear r3 b3 hS0 D0 L2
  go_wp2_with fail
  refine (open_K (fun k => k < B ∨ k = u) p S0 J w3 0 F0.out (by decide) D3.out (by decide)).mono ?_
  rintro e w4 ⟨hp, ho⟩
  rcases hp with ⟨-, b, a, c, G, rfl, hd, hbk, hGb, hgr, hG⟩ | ⟨h1, -⟩
  case inr => exact absurd (by rw [HOP.out]) h1
  rw [HOP.out] at hd hbk hgr ⊢
  simp only at hd hbk hgr ⊢
  have L4 : Hid (Below B w w4) := Only.low1 L3.out B3 ho (fun k h => .inl h)
  have B4 : B ≤ w4.heap.size := Nat.le_trans B3 ho.size
  have hBb : B ≤ b := Nat.le_trans B3 (hG b hGb).1
  have R4 : Hid (RefAt w4 u (.slice none 0 0) S0) := R3.out.only2 ho (fun e => e (.inr rfl))
  have HD4 := hid hd; have HBK4 := hid hbk; have HGB := hid hGb
  have hbu : b ≠ u := by have := (hG b hGb).1; omega
  clear hd hbk hgr hG ho D3 L3 B3 R3 hGb
  go_wp2_with fail
  refine (ropen_any (x := J) R4.out F0.out (by decide) (by decide) (by decide)).mono ?_
  rintro e w5 ⟨hp, v5, hr5, ho5, hv5⟩
  rcases hp with ⟨-, r, a5, c5, rfl, hrb, hrl, -⟩ | ⟨h1, -⟩
  case inr => exact absurd (by rw [HOP.out]) h1
  rw [HOP.out] at hr5 hrb ⊢
  simp only at hr5 hrb ⊢
  have HTW : Hid (Twin B w w5 p b u r (Grew (fun k => (k < B ∨ k = u) ∨ G k) w4 w5) S0 S0 12 S0.life false false) := by
    have hru : u ≠ r := by have := R4.out.lt; omega
    have hv : ∀ k, v5.ownBlock = some k → w4.heap.size ≤ k := fun k hk => by
      rcases hv5 with rfl | h
      · simp [Value.ownBlock] at hk
      · exact h k hk
    refine ⟨⟨⟨HD4.out.more2 ho5 (fun k hk => .inl (.inr hk)), Blk.only HBK4.out ho5 hbu, .inl (.inr HGB.out)⟩, fits_more F0.out (by omega), fun k hk => .inl (.inl (.inl hk)), hBb, L4.out.trans (ho5.below (fun k hk => by rw [hk]; exact B2) B4), Nat.le_trans B4 ho5.size⟩, ⟨v5, hr5, fun k hk => ⟨.inr ⟨hv k hk, (hr5.row.lt k hk).2⟩, Nat.le_trans B4 (hv k hk)⟩⟩, hrb, .inl (.inl (.inr rfl)), .inr ⟨hrl, Blk.lt hrb⟩, B2, Nat.le_trans B4 hrl, hru, fits_more F0.out (by omega), by rw [HL0.out]; omega⟩
  clear hr5 hrb hrl ho5 hv5 HD4 HBK4 HGB R4 L4
  go_upto_block 0 with fail
  go_cut [5, 8] (fun s5 s8 wx => ∃ i, i ≤ 50 ∧ Hid (ExactAt B w wx p u s5 s8 (20 * i + 12)))
  case first =>
    go_wp2_with fail
    go_loopw [5, 8, 11, 12] (fun bv rv ov iv wr => ∃ (i : Nat) (ov' : Bool), i ≤ n0 ∧ i ≤ 50 ∧ iv = .int .i64 i ∧ ov = .bool ov' ∧ Hid (ExactAt B w wr p u bv rv (20 * i + 12))) (fun _ _ _ iv _ => n0 - (intOf iv).toNat)
    case atStart => exact ⟨0, false, Nat.zero_le _, Nat.zero_le _, rfl, rfl, _, b, r, S0, S0.life, false, rfl, rfl, HTW.out⟩
    case round =>
      obtain ⟨i, ov, hi, hi50, rfl, rfl, hg⟩ := hrel
      obtain ⟨K, b', r', S, life, dead, rfl, rfl, ht⟩ := hg.out
      have HT := hid ht
      have hBr : B ≤ wr.heap.size := ht.mid.size
      clear ht hg HTW
      by_cases hgo : i < n0 ∧ i < 50
      · obtain ⟨hin, hi3⟩ := hgo
        have g1 : (i : Int) < n0 := by omega
        have g2 : (i : Int) < 50 := by omega
        have g0 : (0 : Int) ≤ (i : Int) := by omega
        obtain ⟨ab, aoff, kind, ra, rm, rc, rs, nn, fa, fn, fc, fs, rfl, hab, hca⟩ := calls_get HW0.out hin
        obtain rfl : rs.length = rm := hca.strs.1
        have lift : ∀ (o : Nat) (v : Value), w.cell? ⟨ab, o, none⟩ = some v → wr.cell? ⟨ab, o, none⟩ = some v := fun o v h => (HT.out.mid.bel.cell (by have := HBW.out; show ab < B; omega)).trans h
        have q0 : wr.cell? ⟨ab, aoff + i * 4, none⟩ = some (.int .i64 kind) := lift _ _ hca.ck
        have q1 : wr.cell? ⟨ab, aoff + i * 4 + 1, none⟩ = some (.slice ra rs.length rc) := lift _ _ hca.cr
        have q2 : wr.cell? ⟨ab, aoff + i * 4 + 2, none⟩ = some (.int .i64 nn) := lift _ _ hca.cn
        have q3 : wr.cell? ⟨ab, aoff + i * 4 + 3, none⟩ = some (.slice fa fn fc) := lift _ _ hca.cf
        have HCA := hid hca
        clear lift hca
        go_upto_region 14 with fail
        have HT1 := hid (HT.out.more ((Below.refl _ _).alloc (Nat.le_refl _) (.cells #[.int .i64 kind, .slice ra rs.length rc, .int .i64 nn, .slice fa fn fc] 39)))
        have HX1 := hid (Blk.new wr 39 #[.int .i64 kind, .slice ra rs.length rc, .int .i64 nn, .slice fa fn fc])
        have hgK : Grew K wr (wr.alloc (.cells #[.int .i64 kind, .slice ra rs.length rc, .int .i64 nn, .slice fa fn fc] 39)) wr.heap.size := .inr ⟨Nat.le_refl _, by simp⟩
        obtain ⟨W1, hW1⟩ : ∃ W1, wr.alloc (.cells #[.int .i64 kind, .slice ra rs.length rc, .int .i64 nn, .slice fa fn fc] 39) = W1 := ⟨_, rfl⟩
        rw [hW1] at HT1 HX1 hgK ⊢
        obtain ⟨K1, hK1⟩ : ∃ K1, Grew K wr W1 = K1 := ⟨_, rfl⟩
        rw [hK1] at HT1 hgK
        obtain ⟨g, hg⟩ : ∃ g, wr.heap.size = g := ⟨_, rfl⟩
        rw [hg] at HX1 hgK ⊢
        have HGK := hid hgK
        have HGN : Hid (g ≠ b' ∧ g ≠ u ∧ g ≠ r') := by
          obtain ⟨v, h1, -⟩ := HT.out.ref
          have := Blk.lt HT.out.mid.on.book; have := Blk.lt h1.blk; have := Blk.lt HT.out.bk
          exact ⟨by omega, by omega, by omega⟩
        have hB1 : B ≤ g := by omega
        clear hW1 hK1 hg hgK q0 q1 q2 q3 HT
        have HSS := hid (HT1.out.strs HBW.out HCA.out.strs)
        have HII := hid (HT1.out.ints HBW.out HCA.out.ints)
        have e0 : W1.cell? ⟨g, 0, none⟩ = some (.int .i64 kind) := HX1.out.cell 0
        have e1 : W1.cell? ⟨g, 1, none⟩ = some (.slice ra rs.length rc) := HX1.out.cell 1
        have e2 : W1.cell? ⟨g, 2, none⟩ = some (.int .i64 nn) := HX1.out.cell 2
        have e3 : W1.cell? ⟨g, 3, none⟩ = some (.slice fa fn fc) := HX1.out.cell 3
        go_wp2_with fail
        refine (great_any _ _ _ rs W1 HSS.out.1 HCA.out.sz).mono ?_; rintro e w' ⟨rfl, rfl⟩
        cases hgr : greatB rs
        case true =>
          go_wp2_with fail
          go_ret
          exact ⟨rfl, HT1.out.mid.bel⟩
        case false =>
        clear hgr
        have HSZ : Hid (∀ x ∈ rs, x.size ≤ 9223372036854775807) := fun x hx => by have := HCA.out.sz x hx; omega
        -- what stays of the call's copy
        have KEEP : Hid (∀ wx, Only (fun k => ¬ K1 k ∨ k = b') W1 wx → Blk wx g 39 #[.int .i64 kind, .slice ra rs.length rc, .int .i64 nn, .slice fa fn fc]) := fun wx ho => HX1.out.only ho (fun e => e.elim (fun e => e HGK.out) HGN.out.1)
        have KEEP2 : Hid (∀ wx, Only (fun k => ¬ K1 k) W1 wx → Blk wx g 39 #[.int .i64 kind, .slice ra rs.length rc, .int .i64 nn, .slice fa fn fc]) := fun wx ho => HX1.out.only ho (fun e => e HGK.out)
        have STR : Hid (∀ {wx : World} {K2 : Nat → Prop} {S2 T2 : St} {m2 l2 : Nat} {d2 d3 : Bool}, Twin B w wx p b' u r' K2 S2 T2 m2 l2 d2 d3 → StrsAt wx ra rs.length rs ∧ (rs.length ≠ 0 → ∀ b2 off, ra = some ⟨b2, off, none⟩ → b2 ≠ u ∧ b2 ≠ r')) := fun h => h.strs HBW.out HCA.out.strs
        have INT : Hid (∀ {wx : World} {K2 : Nat → Prop} {S2 T2 : St} {m2 l2 : Nat} {d2 d3 : Bool}, Twin B w wx p b' u r' K2 S2 T2 m2 l2 d2 d3 → IntsAt wx fa fn fs ∧ (fn ≠ 0 → ∀ b2 off, fa = some ⟨b2, off, none⟩ → K2 b2 ∧ b2 ≠ u)) := fun h => h.ints HBW.out HCA.out.ints
        clear HSS HII
        have hbig : 20 * i + 40 < 2000 := by omega
        go_upto_block 2 with fail
        go_cut [5, 8, 11, 14, 15] (fun s5 s8 s11 s14 s15 wx => ∃ (e : Int) (ov2 : Bool), s11 = .bool ov2 ∧ s14 = .int .i64 e ∧ s15 = .int .i64 e ∧ Hid (ExactAt B w wx p u s5 s8 (20 * i + 12 + 8)))
        case first =>
          by_cases k1 : kind = 1
          · as_aux_lemma =>
              subst k1
              cases ov
              case true =>
                go_wp2_with fail
                go_roundw
                case rel =>
                  repeat apply Exists.intro
                  refine ⟨?_, rfl⟩
                  exact ⟨i + 1, true, by omega, by omega, by go_num, rfl, _, _, _, _, _, _, rfl, rfl, HT1.out.fits (m := 20 * (i + 1) + 12) (by omega)⟩
                case measure => simp [intOf]; omega
              case false =>
              go_wp2_with fail
              refine (add_E _ _ _ rs HT1.out.mid.on HT1.out.mid.fits (by unfold big; omega) HT1.out.hl (by decide) (STR.out HT1.out).1 HSZ.out).mono ?_
              rintro e wx ⟨rfl, he, ho⟩
              have H2 := hid (HT1.out.deed he ho (add_fits HT1.out.mid.fits J life dead (lists rs)) (by omega))
              have f1 : wx.cell? ⟨g, 1, none⟩ = some (.slice ra rs.length rc) := (KEEP.out wx ho).cell 1
              clear he ho
              go_wp2_with fail
              refine (H2.out.refop (T' := (addB S J life dead (lists rs)).1) (d := (addB S J life dead (lists rs)).2.2) (add_fits HT1.out.fitsT J life dead (lists rs)) (fun v hv => radd_any (n := 20 * i + 12) ra rs.length rc rs hv H2.out.ur HT1.out.fitsT (by unfold big; omega) (by decide) (STR.out H2.out).1 HSZ.out)).mono ?_
              rintro e wy ⟨rfl, h3, -⟩
              have H3 := hid h3
              clear h3
              go_wp2_with fail
              go_meet
              case rel => exact ⟨_, false, rfl, rfl, rfl, _, b', r', _, life, _, rfl, rfl, H3.out.fits (by omega)⟩
          by_cases k2 : kind = 2
          · as_aux_lemma =>
              subst k2
              cases ov
              case true =>
                go_wp2_with fail
                go_roundw
                case rel =>
                  repeat apply Exists.intro
                  refine ⟨?_, rfl⟩
                  exact ⟨i + 1, true, by omega, by omega, by go_num, rfl, _, _, _, _, _, _, rfl, rfl, HT1.out.fits (m := 20 * (i + 1) + 12) (by omega)⟩
                case measure => simp [intOf]; omega
              case false =>
              go_wp2_with fail
              refine (renew_E _ _ _ rs HT1.out.mid.on HT1.out.mid.fits (by unfold big; omega) HT1.out.hl (by decide) (STR.out HT1.out).1 HSZ.out).mono ?_
              rintro e wx ⟨rfl, he, ho⟩
              have H2 := hid (HT1.out.deed he ho (renew_fits HT1.out.mid.fits J life dead (lists rs)) (by omega))
              have f1 : wx.cell? ⟨g, 1, none⟩ = some (.slice ra rs.length rc) := (KEEP.out wx ho).cell 1
              clear he ho
              go_wp2_with fail
              refine (H2.out.refop (T' := (renewB S J life dead (lists rs)).1) (d := (renewB S J life dead (lists rs)).2.2) (renew_fits HT1.out.fitsT J life dead (lists rs)) (fun v hv => rrenew_any (n := 20 * i + 12) ra rs.length rc rs hv H2.out.ur HT1.out.fitsT (by unfold big; omega) (by decide) (by decide) (STR.out H2.out).1 (STR.out H2.out).2 HSZ.out)).mono ?_
              rintro e wy ⟨rfl, h3, -⟩
              have H3 := hid h3
              clear h3
              go_wp2_with fail
              go_meet
              case rel => exact ⟨_, false, rfl, rfl, rfl, _, b', r', _, life, _, rfl, rfl, H3.out.fits (by omega)⟩
          by_cases k3 : kind = 3
          · as_aux_lemma =>
              subst k3
              have hul : u < W1.heap.size := by obtain ⟨v, h1, -⟩ := HT1.out.ref; exact Blk.lt h1.blk
              have HUL := hid hul
              clear hul
              go_wp2_with fail
              refine (HT1.out.open_ (by unfold big; omega)).mono ?_
              rintro e wx ⟨K3, hK3, h2, ho, hp⟩
              have H2 := hid h2
              have HRO := hid (H2.out.ropen (by unfold big; omega) (open_fits HT1.out.fitsT J) H2.out.fitsT)
              have HLF : Hid ((openS S J).1.life ≤ 9223372036854775807) := by have := (open_fits HT1.out.fitsT J).2.1; show _ ≤ _; omega
              obtain ⟨O, hO⟩ : ∃ O, openS S J = O := ⟨_, rfl⟩
              rw [hO] at H2 hp HRO HLF
              clear h2 ho hO
              rcases hp with ⟨z0, bb, a6, c6, rfl, hbb, hkb, hBb2, hgr⟩ | ⟨z0, rfl⟩
              · have HBB := hid hbb; have HKB := hid hkb; have HB2 := hid hBb2; have HG1 := hid hgr; have HZ0 := hid z0
                clear hbb hkb hBb2 hgr z0
                go_wp2_with fail
                refine HRO.out.mono ?_
                rintro e wy ⟨h3, ho3, hq⟩
                rcases hq with ⟨-, rr, a7, c7, rfl, hrb, hkr, hBr2, hgr2⟩ | ⟨z1, -⟩
                case inr => exact absurd HZ0.out z1
                have hbu : bb ≠ u := by obtain ⟨v, h1, -⟩ := H2.out.ref; exact Blk.ne HBB.out h1.blk (by decide)
                have H3 := hid (Twin.renewed h3 (Blk.only HBB.out ho3 hbu) (.inl HKB.out) HB2.out hrb hkr hBr2 HLF.out)
                have HGa := hid (HG1.out.only ho3 (fun k hk e => by have := HUL.out; have hk : W1.heap.size ≤ k := hk; omega))
                have HGb := hid hgr2
                have HSM := hid (same_grid (c := c6) (c' := c7) (grid O.2.2) wy HGa.out HGb.out (by unfold grid; simp))
                obtain ⟨m, hm⟩ : ∃ m, O.2.2.length = m := ⟨_, rfl⟩
                rw [hm] at HSM ⊢
                clear h3 ho3 hrb hkr hBr2 hgr2 hbu hm HBB HKB HB2 HG1
                go_wp2_with (go_at_call 14; refine HSM.out.mono ?_; rintro e wz ⟨rfl, b7⟩; have H4 := hid (H3.out.below b7); clear b7)
                go_meet
                case rel => exact ⟨0, false, rfl, rfl, rfl, _, bb, rr, _, _, false, rfl, rfl, H4.out.fits (by omega)⟩
              · have HZ0 := hid z0
                clear z0
                go_wp2_with fail
                refine HRO.out.mono ?_
                rintro e wy ⟨h3, ho3, hq⟩
                rcases hq with ⟨z1, -⟩ | ⟨-, rfl⟩
                · exact absurd z1 HZ0.out
                have H3 := hid h3
                have HSM := hid (same_grid (G := fun _ => True) (G' := fun _ => True) (c := 0) (c' := 0) [] wy (a := none) (a' := none) (n := 0) GridIn.nil GridIn.nil rfl)
                obtain ⟨ez, hez⟩ : ∃ ez, O.2.1 = ez := ⟨_, rfl⟩
                rw [hez] at HZ0 ⊢
                have hb1 : (ez == 0) = false := by simpa using HZ0.out
                have hb2 : (ez != 0) = true := by simpa using HZ0.out
                clear h3 ho3 hez
                go_wp2_with (go_at_call 14; refine HSM.out.mono ?_; rintro e wz ⟨rfl, b7⟩; have H4 := hid (H3.out.below b7); clear b7)
                go_meet
                case rel => exact ⟨0, true, rfl, rfl, rfl, _, b', r', _, life, dead, rfl, rfl, H4.out.fits (by omega)⟩
          by_cases k4 : kind = 4
          · as_aux_lemma =>
              subst k4
              go_wp2_with fail
              refine (arm_K nn HCA.out.wn.2 HT1.out.mid.on.disk).mono ?_; rintro e wx ⟨rfl, d2, ho⟩
              have H2 := hid (HT1.out.disk d2 ho (m := 20 * i + 13) ((fits_more (arm_fits HT1.out.mid.fits nn HCA.out.wn.2) (by omega)) : (armS S nn).Fits (20 * i + 13)) (by omega))
              have f2 : wx.cell? ⟨g, 2, none⟩ = some (.int .i64 nn) := (KEEP2.out wx ho).cell 2
              clear d2 ho
              go_wp2_with fail
              refine (H2.out.rdisk (T' := armS S nn) (fits_more (arm_fits HT1.out.mid.fits nn HCA.out.wn.2) (by omega)) (fun v hv => rarm_any hv nn HCA.out.wn.2)).mono ?_; rintro e wy ⟨rfl, h3, -⟩
              have H3 := hid h3
              clear h3
              go_wp2_with fail
              go_meet
              case rel => exact ⟨_, ov, rfl, rfl, rfl, _, b', r', _, life, dead, rfl, rfl, H3.out.fits (by omega)⟩
          by_cases k5 : kind = 5
          · as_aux_lemma =>
              subst k5
              go_wp2_with fail
              refine (off_K (20 * i + 12) HT1.out.mid.on.disk HT1.out.mid.fits (by unfold big; omega)).mono ?_; rintro e wx ⟨rfl, d2, ho⟩
              have H2 := hid (HT1.out.disk d2 ho (m := 20 * i + 13) ((off_fits HT1.out.mid.fits) : (offS S).Fits (20 * i + 13)) (by omega))
              skip
              clear d2 ho
              go_wp2_with fail
              refine (H2.out.rdisk (T' := offS S) (off_fits HT1.out.mid.fits) (fun v hv => roff_any hv (20 * i + 12) HT1.out.mid.fits (by unfold big; omega))).mono ?_; rintro e wy ⟨rfl, h3, -⟩
              have H3 := hid h3
              clear h3
              go_wp2_with fail
              go_meet
              case rel => exact ⟨_, ov, rfl, rfl, rfl, _, b', r', _, life, dead, rfl, rfl, H3.out.fits (by omega)⟩
          by_cases k6 : kind = 6
          · as_aux_lemma =>
              subst k6
              go_wp2_with fail
              refine (on_K fa fn fc fs HT1.out.mid.on.disk (INT.out HT1.out).1 (fun hn b2 off e => ((INT.out HT1.out).2 hn b2 off e).1)).mono ?_; rintro e wx ⟨rfl, d2, ho⟩
              have H2 := hid (HT1.out.disk d2 ho (m := 20 * i + 13) ((fits_more (on_fits HT1.out.mid.fits fs) (by omega)) : (onS S fs).Fits (20 * i + 13)) (by omega))
              have f3 : wx.cell? ⟨g, 3, none⟩ = some (.slice fa fn fc) := (KEEP2.out wx ho).cell 3
              clear d2 ho
              go_wp2_with fail
              refine (H2.out.rdisk (T' := onS S fs) (fits_more (on_fits HT1.out.mid.fits fs) (by omega)) (fun v hv => ron_any fa fn fc fs hv (INT.out H2.out).1 (fun hn b2 off e => ((INT.out H2.out).2 hn b2 off e).2))).mono ?_; rintro e wy ⟨rfl, h3, -⟩
              have H3 := hid h3
              clear h3
              go_wp2_with fail
              go_meet
              case rel => exact ⟨_, ov, rfl, rfl, rfl, _, b', r', _, life, dead, rfl, rfl, H3.out.fits (by omega)⟩
          by_cases k7 : kind = 7
          · as_aux_lemma =>
              subst k7
              go_wp2_with fail
              refine (room_K nn HT1.out.mid.on.disk).mono ?_; rintro e wx ⟨rfl, d2, ho⟩
              have H2 := hid (HT1.out.disk d2 ho (m := 20 * i + 13) ((fits_more (room_fits HT1.out.mid.fits nn) (by omega)) : (roomS S nn).Fits (20 * i + 13)) (by omega))
              have f2 : wx.cell? ⟨g, 2, none⟩ = some (.int .i64 nn) := (KEEP2.out wx ho).cell 2
              clear d2 ho
              go_wp2_with fail
              refine (H2.out.rdisk (T' := roomS S nn) (fits_more (room_fits HT1.out.mid.fits nn) (by omega)) (fun v hv => rroomc_any hv nn)).mono ?_; rintro e wy ⟨rfl, h3, -⟩
              have H3 := hid h3
              clear h3
              go_wp2_with fail
              go_meet
              case rel => exact ⟨_, ov, rfl, rfl, rfl, _, b', r', _, life, dead, rfl, rfl, H3.out.fits (by omega)⟩
          by_cases k8 : kind = 8
          · as_aux_lemma =>
              subst k8
              go_upto_if 162 with fail
              go_cut [22] (fun s22 wx => ∃ s : ByteArray, s22 = .string s ∧ s.size ≤ 140737488355328 ∧ W1 = wx)
              case first =>
                by_cases hl : 0 < rs.length
                · have gl : (0 : Int) < rs.length := by omega
                  obtain ⟨sb, so, hsa, -, hsc⟩ := strs_get (STR.out HT1.out).1 hl
                  have hss : (rs.getD 0 ByteArray.empty).size ≤ 140737488355328 := HCA.out.sz _ (by
                    rw [List.getD_eq_getElem?_getD, List.getElem?_eq_getElem hl]; exact List.getElem_mem _)
                  obtain ⟨s, hs⟩ : ∃ s, rs.getD 0 ByteArray.empty = s := ⟨_, rfl⟩
                  rw [hs] at hsc hss
                  rw [hsa] at e1
                  have hsc : W1.cell? ⟨sb, so, none⟩ = some (.string s) := hsc
                  have HSS := hid hss
                  clear hs hsa hss
                  go_wp2_with fail
                  go_meet
                  case rel => exact ⟨s, rfl, HSS.out, rfl⟩
                · have gl : ¬ (0 : Int) < rs.length := by omega
                  go_wp2_with fail
                  go_meet
                  case rel => exact ⟨⟨#[]⟩, rfl, by decide, rfl⟩
              case rest =>
              obtain ⟨s, rfl, hs, rfl⟩ := hcut
              go_wp2_with fail
              refine (append_K (20 * i + 12) J s HT1.out.mid.on.disk HT1.out.mid.fits (by unfold big; omega) (by decide) hs).mono ?_; rintro e wx ⟨rfl, d2, ho⟩
              have H2 := hid (HT1.out.disk d2 ho (m := 20 * i + 13) ((append_near S J s).fits HT1.out.mid.fits) (by omega))
              clear d2 ho
              go_wp2_with fail
              refine (H2.out.rdisk (T' := (appendS S J s).1) ((append_near S J s).fits HT1.out.mid.fits) (fun v hv => rappend_any J s hv (20 * i + 12) HT1.out.mid.fits (by unfold big; omega) (ok_append hv.ok J s) (by decide) hs)).mono ?_; rintro e wy ⟨rfl, h3, -⟩
              have H3 := hid h3
              clear h3
              go_wp2_with fail
              go_meet
              case rel => exact ⟨_, true, rfl, rfl, rfl, _, b', r', _, life, dead, rfl, rfl, H3.out.fits (by omega)⟩
          as_aux_lemma =>
            have j1 : (kind == 1) = false := by simpa using k1
            have j2 : (kind == 2) = false := by simpa using k2
            have j3 : (kind == 3) = false := by simpa using k3
            have j4 : (kind == 4) = false := by simpa using k4
            have j5 : (kind == 5) = false := by simpa using k5
            have j6 : (kind == 6) = false := by simpa using k6
            have j7 : (kind == 7) = false := by simpa using k7
            have j8 : (kind == 8) = false := by simpa using k8
            go_wp2_with fail
            go_meet
            case rel => exact ⟨0, ov, rfl, rfl, rfl, _, _, _, _, _, _, rfl, rfl, HT1.out.fits (by omega)⟩
        case rest =>
        obtain ⟨er, ov2, rfl, rfl, rfl, K2, b2, r2, S2, life2, dead2, rfl, rfl, ht⟩ := hcut
        have HT2 := hid ht
        clear ht e0 e1 e2 e3 HX1 KEEP KEEP2 STR INT HT1
        as_aux_lemma =>
          have HAC := hid (fun wx (h : Twin B w wx p b2 u r2 K2 S2 S2 (20 * i + 12 + 8) life2 dead2 dead2) => acts_K h.mid.on.disk)
          have HRA : Hid (∀ wx, Twin B w wx p b2 u r2 K2 S2 S2 (20 * i + 12 + 8) life2 dead2 dead2 → Calls Tryz.prog 26 #[.pointer (some ⟨u, 0, none⟩)] wx fun e w' => e = .returned (.int .i64 S2.acts) ∧ wx = w') := fun wx h => by obtain ⟨v, h1, -⟩ := h.ref; exact racts_any h1
          have HRS : Hid (∀ wx, Twin B w wx p b2 u r2 K2 S2 S2 (20 * i + 12 + 8) life2 dead2 dead2 → Calls Tryz.prog 27 #[.pointer (some ⟨u, 0, none⟩), .string J] wx fun e w' => e = .returned (.int .i64 (sizeS S2 J)) ∧ Twin B w w' p b2 u r2 K2 S2 S2 (20 * i + 12 + 8) life2 dead2 dead2) := fun wx h => by
            have hh := h
            obtain ⟨v, h1, -⟩ := h.ref
            exact (rsize_any J h1).mono fun e w' ⟨he, q, hq⟩ => ⟨he, by rw [hq]; exact hh.below (below_drewN (Below.refl _ _) q)⟩
          have HBS : Hid (∀ wx, Twin B w wx p b2 u r2 K2 S2 S2 (20 * i + 12 + 8) life2 dead2 dead2 → Calls Tryz.prog 28 #[.pointer (some ⟨b2, 0, none⟩)] wx fun e w' => e = .returned (.int .i64 (if sizeS S2 J < 0 then 0 else sizeS S2 J)) ∧ Twin B w w' p b2 u r2 K2 S2 S2 (20 * i + 12 + 8) life2 dead2 dead2) := fun wx h =>
            (bsize_K h.mid.on.disk h.mid.on.book).mono fun e w' ⟨he, hb⟩ => ⟨he, h.below hb⟩
          obtain ⟨z, hz⟩ : ∃ z, sizeS S2 J = z := ⟨_, rfl⟩
          rw [hz] at HRS HBS
          clear hz
          go_upto_region 57 with (first
            | (go_at_call 25; refine (HAC.out wc HT2.out).mono ?_; rintro e w' ⟨rfl, rfl⟩)
            | (go_at_call 26; refine (HRA.out wc HT2.out).mono ?_; rintro e w' ⟨rfl, rfl⟩))
          go_cut [196] (fun s196 wx => s196 = .bool false ∧ Hid (Twin B w wx p b2 u r2 K2 S2 S2 (20 * i + 12 + 8) life2 dead2 dead2))
          case first =>
            cases ov2
            case true =>
              go_wp2_with fail
              go_meet
              case rel => exact ⟨rfl, HT2⟩
            case false =>
            by_cases hz : 0 ≤ z
            · have hlt : ¬ z < 0 := by omega
              rw [if_neg hlt] at HBS
              clear hlt
              go_wp2_with fail
              refine (HRS.out wc HT2.out).mono ?_; rintro e w3' ⟨rfl, h3⟩
              have H3 := hid h3
              clear h3
              go_wp2_with fail
              refine (HBS.out _ H3.out).mono ?_; rintro e w4' ⟨rfl, h4⟩
              have H4 := hid h4
              clear h4
              go_wp2_with fail
              refine (HRS.out _ H4.out).mono ?_; rintro e w5' ⟨rfl, h5⟩
              have H5 := hid h5
              clear h5
              go_wp2_with fail
              go_meet
              case rel => exact ⟨rfl, H5⟩
            · have hge : ¬ (0 : Int) ≤ z := by omega
              go_wp2_with fail
              refine (HRS.out wc HT2.out).mono ?_; rintro e w3' ⟨rfl, h3⟩
              have H3 := hid h3
              clear h3
              go_wp2_with fail
              go_meet
              case rel => exact ⟨rfl, H3⟩
          case rest =>
          obtain ⟨rfl, HT3⟩ := hcut
          clear HT2 HAC HRA HRS HBS
          go_wp2_with fail
          go_roundw
          case rel =>
            repeat apply Exists.intro
            refine ⟨?_, rfl⟩
            exact ⟨i + 1, ov2, by omega, by omega, by go_num, rfl, _, _, _, _, _, _, rfl, rfl, HT3.out.fits (m := 20 * (i + 1) + 12) (by omega)⟩
          case measure => simp [intOf]; omega
      · have gn : ¬ (i : Int) < n0 ∨ (i : Int) < n0 ∧ ¬ (i : Int) < 50 := by omega
        as_aux_lemma =>
          rcases gn with gn | ⟨gn, gn2⟩
          all_goals
            go_wp2_with fail
            go_meet
            case rel => exact ⟨i, hi50, K, b', r', S, life, dead, rfl, rfl, HT.out⟩
  case rest =>
    obtain ⟨i, hi50, K, b', r', S, life, dead, rfl, rfl, ht⟩ := hcut
    have HT := hid ht
    clear ht HTW
    as_aux_lemma =>
      go_wp2_with fail
      refine (on_K none 0 0 [] HT.out.mid.on.disk (ints_nil wc) (fun h => absurd rfl h)).mono ?_; rintro e wx ⟨rfl, d2, ho⟩
      have H2 := hid (HT.out.disk d2 ho (m := 20 * i + 12) (on_fits HT.out.mid.fits []) (Nat.le_refl _))
      clear d2 ho
      go_wp2_with fail
      refine (H2.out.rdisk (T' := onS S []) (on_fits HT.out.mid.fits []) (fun v hv => ron_any none 0 0 [] hv (ints_nil wx) (fun h => absurd rfl h))).mono ?_; rintro e wy ⟨rfl, h3, -⟩
      have H3 := hid h3
      clear h3
      have HRD : Hid (Calls Tryz.prog 29 #[.pointer (some ⟨p, 0, none⟩), .string J] wy fun e w' => e = .returned (.tuple #[.string ⟨(readS (onS S []) J).1.toArray⟩, .int .i64 (readS (onS S []) J).2]) ∧ wy = w') := read_K J H3.out.mid.on.disk
      have HRR : Hid (Calls Tryz.prog 30 #[.pointer (some ⟨u, 0, none⟩), .string J] wy fun e w' => e = .returned (.tuple #[.string ⟨(readS (onS S []) J).1.toArray⟩, .int .i64 (readS (onS S []) J).2]) ∧ wy = w') := by
        obtain ⟨v, h1, -⟩ := H3.out.ref
        exact rread_any J h1
      obtain ⟨y, hy⟩ : ∃ y, (⟨(readS (onS S []) J).1.toArray⟩ : ByteArray) = y := ⟨_, rfl⟩
      obtain ⟨z, hz⟩ : ∃ z, (readS (onS S []) J).2 = z := ⟨_, rfl⟩
      rw [hy, hz] at HRD HRR
      clear hy hz
      go_wp2_with fail
      refine HRD.out.mono ?_; rintro e w' ⟨rfl, rfl⟩
      go_wp2_with fail
      refine HRR.out.mono ?_; rintro e w' ⟨rfl, rfl⟩
      go_wp2_with fail
      go_ret
      exact ⟨rfl, H3.out.mid.bel⟩
end Go.Proofs.YtnhgfhbicaiilaaGreat
