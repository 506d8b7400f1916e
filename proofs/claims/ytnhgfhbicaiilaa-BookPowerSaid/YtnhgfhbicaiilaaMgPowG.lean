/- Texts in a row: BkPower, OpenInts, OpenInts3. -/
import Derived.Test.YtnhgfhbicaiilaaMgPowF
import Derived.ChangeSlices
import Derived.WalkKit
import Derived.ProofKit
import Derived.OpenShut
import Derived.ShutString
import Derived.ChangeOld
import Derived.SliceStrings
import Derived.DataShut
import Derived.Laws.IdiomArrays
/- The walk of BookPower. -/
namespace Go.Proofs.Ytnhgfhbicaiilaa
open Go.RowKit Book Reel
set_option linter.unusedVariables false

/-- where the law stands ahead of a round -/
def PowerAt (B : Nat) (w0 w : World) (p b : Nat) (sv nv : Value) (n i : Nat) : Prop :=
  ∃ (K : Nat → Prop) (S : St) (L : List (List ByteArray)), Mid B w0 w p b K S n S.life false ∧ Wanted B w0 w K sv L ∧ Wanted B w0 w K nv L ∧ CalmP S (L.map lists) ∧ L.length ≤ i ∧ ∃ g c, sv = .slice (some ⟨g, 0, none⟩) L.length c
/-- where it stands behind the deeds -/
structure PowerEnd (B : Nat) (w0 w : World) (p : Nat) (K : Nat → Prop) (S : St) (sv nv : Value) (Ls Ln : List (List ByteArray)) (n : Nat) : Prop where
  disk : DK K w p S
  fits : S.Fits n
  low : ∀ k, k < B → K k
  bel : Below B w0 w
  size : B ≤ w.heap.size
  sure : Wanted B w0 w K sv Ls
  next : Wanted B w0 w K nv Ln
  ls : Ls.length ≤ 31
  ln : Ln.length ≤ 31
  found : ∀ fs, Kept (onS (offS S) fs) (Ls.map lists) ∨ Kept (onS (offS S) fs) (Ln.map lists)
theorem DeedsAt.later {w w' : World} {a : Option Addr} {n : Nat} (h : DeedsAt w a n) (hb : Below w.heap.size w w') : DeedsAt w' a n := by
  refine ⟨h.1, ?_⟩
  rcases h.2 with h0 | ⟨b, off, ha, hc⟩
  · exact .inl h0
  · refine .inr ⟨b, off, ha, fun j hj => ?_⟩
    obtain ⟨ra, rn, rc, rs, rw, d0, d1, d2, d3⟩ := hc j hj
    have hc := Only.of_below hb NoF
    exact ⟨ra, rn, rc, rs, rw, hc.cell d0 (fun e => e), hc.cell d1 (fun e => e), d2.later hb, d3⟩
theorem Mid.disk {B n m life p b : Nat} {w0 wx w' : World} {K : Nat → Prop} {S S' : St} {dead : Bool} (h : Mid B w0 wx p b K S n life dead) (hd : DK K w' p S') (ho : Only (fun k => ¬ K k) wx w') (hf : S'.Fits m) : Mid B w0 w' p b K S' m life dead :=
  ⟨⟨hd, Blk.only h.on.book ho (fun e => e h.on.kb), h.on.kb⟩, hf, h.low, h.bb, Only.low1 h.bel h.size ho h.low, Nat.le_trans h.size ho.size⟩
/-- a list of one deed, made anew -/
theorem Wanted.one {B : Nat} {w0 wx : World} {K : Nat → Prop} {a : Option Addr} {c : Nat} {rs : List ByteArray} (hB : B ≤ wx.heap.size) (hr : StrsAt w0 a rs.length rs) : Wanted B w0 (wx.alloc (.cells #[.slice a rs.length c] 33)) (Grew K wx (wx.alloc (.cells #[.slice a rs.length c] 33))) (.slice (some ⟨wx.heap.size, 0, none⟩) 1 1) [rs] := by
  refine ⟨⟨[.slice a rs.length c], ⟨rfl, .inr ⟨wx.heap.size, 1, #[.slice a rs.length c], rfl, hB, heap_alloc_new wx _, Nat.le_refl _, by unfold maxLen; omega, rfl, rfl⟩⟩, fun j hj => ?_⟩, fun k e => ?_⟩
  · have hj0 : j = 0 := by simp at hj; omega
    subst hj0
    exact ⟨a, c, rfl, hr⟩
  · simp only [Value.ownBlock, Option.some.injEq] at e
    exact .inr ⟨by omega, by rw [← e]; simp⟩
theorem Mid.grown {B n m life p b : Nat} {w0 wx w' : World} {K : Nat → Prop} {S : St} {dead : Bool} {v : Value} {xs : List Value} (h : Mid B w0 wx p b K S n life dead) (hK : ∀ k, v.ownBlock = some k → K k) (hv : wx.ownsRow B 33 1 v m xs) (hg : wx.grownBy w' v.ownBlock) : Mid B w0 w' p b (Grew K wx w') S n life dead := by
  have hon : Only (fun k => v.ownBlock = some k) wx w' := (Only.refl _ wx).grown hg (fun k e => .inl e)
  refine h.step hon (fun k hk => ⟨hK k hk, (hv.lt k hk).1, fun e => ?_⟩)
  subst e
  exact own_blk_ne hv h.on.book (by decide) hk
theorem want_cap2 {w0 w : World} {B n c : Nat} {a : Option Addr} {L : List (List ByteArray)} (h : Want w0 w B (.slice a n c) L) (h0 : L.length ≠ 0) : ∃ g, a = some ⟨g, 0, none⟩ := by
  obtain ⟨vs, h1, -⟩ := h
  rcases h1.2 with ⟨e, e0⟩ | ⟨g, cap, cur, e, hb, hg, hn, hc, hsz, htk⟩
  · exact absurd e0 h0
  · injection e with e1 e2 e3
    exact ⟨g, e1⟩
theorem want_ones {w0 w : World} {vs : List Value} {L : List (List ByteArray)} (hl : vs.length = L.length) (h2 : ∀ j (h : j < L.length), ∃ a c, vs[j]? = some (.slice a L[j].length c) ∧ StrsAt w0 a L[j].length L[j]) : ∀ u ∈ vs, u.oneCell' = true := by
  intro u hu
  obtain ⟨j, hj, rfl⟩ := List.getElem_of_mem hu
  obtain ⟨a, c, e, -⟩ := h2 j (by omega)
  rw [List.getElem?_eq_getElem hj] at e
  rw [Option.some.inj e]
  rfl
/-- how a deed ended -/
def DeedOut (S : St) (L M : List (List ByteArray)) (life : Nat) (dead : Bool) (e : Int) : Prop :=
  (e = 0 ∧ dead = false ∧ life = S.life ∧ CalmP S (M.map lists)) ∨ (e = 10 ∧ ∀ fs, Kept (onS (offS S) fs) (L.map lists) ∨ Kept (onS (offS S) fs) (M.map lists)) ∨ (e ≠ 0 ∧ e ≠ 10 ∧ dead = false ∧ life = S.life ∧ CalmP S (L.map lists))
theorem deed_out {S : St} {L M : List (List ByteArray)} {rs : List ByteArray} {r : St × Int × Bool} (hc : CalmP S (L.map lists)) (h : DeedLost S (L.map lists) (M.map lists) (lists rs) r) : DeedOut r.1 L M S.life r.2.2 r.2.1 := by
  rcases h with ⟨h1, h2, -, h4, h5⟩ | ⟨h1, h2⟩ | ⟨h1, h2, h3, h4, -⟩
  · exact .inl ⟨h1, h2, h5.symm, h4⟩
  · exact .inr (.inl ⟨h1, h2⟩)
  · exact .inr (.inr ⟨h1, h2, h3, by rw [h4], by rw [h4]; exact hc⟩)
theorem same_not {G G' : Nat → Prop} {a a' : Option Addr} {c c' : Nat} (L M : List (List ByteArray)) (w : World) (hne : L ≠ M) (h : GridIn G w a L.length L) (h' : GridIn G' w a' M.length M) :
    Calls Try.prog 12 #[.slice a L.length c, .slice a' M.length c'] w fun e w' => e = .returned (.bool false) ∧ Below w.heap.size w w' :=
  (same_any _ _ _ _ _ _ L M w h h').mono fun e w' ⟨h1, h2⟩ => ⟨by rw [h1]; simp [hne], h2⟩
set_option maxRecDepth 100000 in
set_option maxHeartbeats 8000000 in
theorem walk_BookPower (a0 : Option Addr) (n0 c0 : Nat) (a1 : Option Addr) (n1 c1 : Nat) (l1 : List Int) (a2 : Option Addr) (n2 c2 : Nat) (l2 : List Int) (a3 : Option Addr) (n3 c3 : Nat) (l3 : List Int) (v : World)
    (h0 : DeedsAt v a0 n0) (h1 : IntsAt v a1 n1 l1) (h2 : IntsAt v a2 n2 l2) (h3 : IntsAt v a3 n3 l3) :
    Calls Try.prog 5 #[.slice a0 n0 c0, .agg #[.slice a1 n1 c1, .slice a2 n2 c2, .slice a3 n3 c3]] v fun e w' => e = .returned (.bool true) ∧ Below v.heap.size v w' := by
  have hv0 := hid h0; have hv1 := hid h1; have hv2 := hid h2; have hv3 := hid h3
  have hn0 := h0.1; have hn1 := h1.2.1
  clear h0 h1 h2 h3
  obtain ⟨i0, hi0, hz0, hz1, hz2⟩ := info_parts Try.infoSl
  go_enter Try.func5, Try.ntmps5
  go_upto_region 1 with fail
  obtain ⟨gv, hgv⟩ : ∃ gv, v.heap.size = gv := ⟨_, rfl⟩
  have HGV := hid hgv
  have HBV := hid ((Below.refl v.heap.size v).alloc (Nat.le_refl _) (.cells #[.slice a1 n1 c1, .slice a2 n2 c2, .slice a3 n3 c3] 48))
  have HXV := hid (Blk.new v 48 #[.slice a1 n1 c1, .slice a2 n2 c2, .slice a3 n3 c3])
  have hsz : (v.alloc (.cells #[.slice a1 n1 c1, .slice a2 n2 c2, .slice a3 n3 c3] 48)).heap.size = v.heap.size + 1 := by simp
  obtain ⟨w, hw⟩ : ∃ w, v.alloc (.cells #[.slice a1 n1 c1, .slice a2 n2 c2, .slice a3 n3 c3] 48) = w := ⟨_, rfl⟩
  rw [hgv] at hsz HXV ⊢
  rw [hw] at HBV HXV hsz ⊢
  obtain ⟨B, hB⟩ : ∃ B, w.heap.size = B := ⟨_, rfl⟩
  have HBW := hid hB
  have hgB : gv + 1 = B := by omega
  have HBVW : Hid (∀ wx, Below B w wx → Below gv v wx) := fun wx hx => by
    have := HBV.out
    rw [hgv] at this
    exact this.trans (Below.mono hx (by omega))
  have HW0 : Hid (DeedsAt w a0 n0) := hv0.out.later HBV.out
  have HI1 : Hid (IntsAt w a1 n1 l1) := ints_later hv1.out HBV.out
  have HI2 : Hid (IntsAt w a2 n2 l2) := ints_later hv2.out HBV.out
  have HI3 : Hid (IntsAt w a3 n3 l3) := ints_later hv3.out HBV.out
  have HCL : Hid (∀ wx, Below B w wx → Blk wx gv 48 #[.slice a1 n1 c1, .slice a2 n2 c2, .slice a3 n3 c3]) := fun wx hx => (hx.block gv (by omega)).trans HXV.out
  clear hw hsz hgB hB hv0 hv1 hv2 hv3 hgv HBV HXV
  go_wp2_with fail
  refine (awake17_any _).mono ?_; rintro e w1 ⟨rfl, b1⟩
  have L1 : Hid (Below B w w1) := by rw [HBW.out] at b1; exact b1
  have B1 : B ≤ w1.heap.size := by have := L1.out.size; rw [HBW.out] at this; exact this
  clear b1
  go_wp2_with fail
  refine (new_K (K := fun k => k < B) 4194304 (fun k h => Nat.lt_of_lt_of_le h B1)).mono ?_; rintro e w2 ⟨p, rfl, d0, b1⟩
  have L2 : Hid (Below B w w2) := L1.out.trans (b1.mono B1)
  have B2 : B ≤ w2.heap.size := Nat.le_trans B1 b1.size
  have D0 := hid d0
  have C0 := hid (calm_new 4194304)
  have F0 : Hid ((new 4194304).Fits 0) := ⟨Nat.le_refl _, Nat.le_refl _, by show (0 : Nat) ≤ _; omega⟩
  clear d0 b1 L1 B1
  obtain ⟨S0, hS0⟩ : ∃ S0, new 4194304 = S0 := ⟨_, rfl⟩
  rw [hS0] at D0 C0 F0
  clear hS0
  go_wp2_with fail
  refine (open_K (fun k => k < B) p S0 J w2 0 F0.out (by decide) D0.out (by decide)).mono ?_
  rintro e w3 ⟨hp, ho⟩
  have hco := calm_open C0.out
  rcases hp with ⟨-, b, a, c, G, rfl, hd, hbk, hGb, hgr, hG⟩ | ⟨h1, -⟩
  case inr => exact absurd (by rw [hco]) h1
  rw [hco] at hd hbk hgr ⊢
  simp only at hd hbk hgr ⊢
  have L3 : Hid (Below B w w3) := Only.low1 L2.out B2 ho (fun k h => h)
  have B3 : B ≤ w3.heap.size := Nat.le_trans B2 ho.size
  have hBb : B ≤ b := Nat.le_trans B2 (hG b hGb).1
  have HM3 : Hid (Mid B w w3 p b (fun k => k < B ∨ G k) S0 4 S0.life false) := ⟨⟨hd, hbk, .inr hGb⟩, fits_more F0.out (by omega), fun k hk => .inl hk, hBb, L3.out, B3⟩
  have q0 : w3.cell? ⟨gv, 0, none⟩ = some (.slice a1 n1 c1) := (HCL.out w3 L3.out).cell 0
  clear hd hbk hGb hgr hG ho hco D0 L2 B2 F0
  go_upto_if 30 with fail
  go_cut [9] (fun s9 wx => ∃ x, s9 = .int .i64 x ∧ w3 = wx)
  case first =>
    by_cases hn : 0 < n1
    · have g1 : (0 : Int) < n1 := by omega
      obtain ⟨ab, aoff, x, rfl, -, e0, -, -⟩ := ints_get (ints_later HI1.out (by rw [HBW.out]; exact L3.out)) hn
      have e0 : w3.cell? ⟨ab, aoff, none⟩ = some (.int .i64 x) := e0
      go_wp2_with fail
      go_meet
      case rel => exact ⟨x, rfl, rfl⟩
    · have g1 : ¬ (0 : Int) < n1 := by omega
      go_wp2_with fail
      go_meet
      case rel => exact ⟨0, rfl, rfl⟩
  case rest =>
  obtain ⟨x, rfl, rfl⟩ := hcut
  clear q0 L3
  go_wp2_with fail
  obtain ⟨z, hz⟩ : ∃ z, wrap64 (1 + wrap64 ((IntKind.u64.wrap x).tmod 70)) = z := ⟨_, rfl⟩
  have hzz : z ≤ 9223372036854775807 := by rw [← hz]; unfold wrap64; omega
  rw [hz]
  clear hz
  refine (arm_K z hzz HM3.out.on.disk).mono ?_; rintro e w4 ⟨rfl, d4, o4⟩
  have HM4 : Hid (Mid B w w4 p b (fun k => k < B ∨ G k) (armS S0 z) 8 S0.life false) := HM3.out.disk d4 o4 (fits_more (arm_fits HM3.out.fits z hzz) (by omega))
  have C4 := hid (C0.out.toP.arm z)
  clear d4 o4 HM3 C0 B3
  obtain ⟨S1, hS1⟩ : ∃ S1, armS S0 z = S1 := ⟨_, rfl⟩
  have hl1 : S0.life = S1.life := by rw [← hS1]; rfl
  rw [hS1, hl1] at HM4
  rw [hS1] at C4
  clear hS1 hl1
  go_upto_region 12 with fail
  have HM5 := hid (HM4.out.alloc (.cells #[] 33))
  have HS5 := hid (Wanted.made (w0 := w) (K := fun k => k < B ∨ G k) HM4.out.size (.bool true) rfl)
  obtain ⟨g5, hg5⟩ : ∃ g5, w4.heap.size = g5 := ⟨_, rfl⟩
  rw [hg5] at HS5 ⊢
  obtain ⟨K5, hK5⟩ : ∃ K5, Grew (fun k => k < B ∨ G k) w4 (w4.alloc (.cells #[] 33)) = K5 := ⟨_, rfl⟩
  rw [hK5] at HM5 HS5
  obtain ⟨w5, hw5⟩ : ∃ w5, w4.alloc (.cells #[] 33) = w5 := ⟨_, rfl⟩
  rw [hw5] at HM5 HS5 ⊢
  clear hw5 hK5 hg5 HM4
  go_upto_block 0 with fail
  go_cut [10, 11] (fun s10 s11 wx => ∃ K S Ls Ln, Hid (PowerEnd B w wx p K S s10 s11 Ls Ln 200))
  case first =>
    go_wp2_with fail
    go_loopw [10, 11, 12] (fun sv nv iv wr => ∃ i : Nat, i ≤ n0 ∧ i ≤ 30 ∧ iv = .int .i64 i ∧ Hid (PowerAt B w wr p b sv nv (4 * i + 8) i)) (fun _ _ iv _ => n0 - (intOf iv).toNat)
    case atStart => exact ⟨0, Nat.zero_le _, Nat.zero_le _, rfl, _, S1, [], HM5.out.alloc _, HS5.out.alloc _, Wanted.made HM5.out.size (.bool true) rfl, C4.out, Nat.le_refl _, g5, 0, rfl⟩
    case round =>
      obtain ⟨i, hi, hi30, rfl, hg⟩ := hrel
      obtain ⟨K, S, L, hm, hsv, hnv, hc, hLi, sg, sc, rfl⟩ := hg.out
      have HM := hid hm; have HSV := hid hsv; have HNV := hid hnv; have HC := hid hc
      have hBr : B ≤ wr.heap.size := hm.size
      clear hc hm hsv hnv hg HM5 HS5 C4
      by_cases hgo : i < n0 ∧ i < 30
      · obtain ⟨hin, hi3⟩ := hgo
        have g1 : (i : Int) < n0 := by omega
        have g2 : (i : Int) < 30 := by omega
        have g0 : (0 : Int) ≤ (i : Int) := by omega
        obtain ⟨ab, aoff, ra, rn, rc, rs, rnew, rfl, hab, hd0, hd1, hds, hdz⟩ := deeds_get HW0.out hin
        obtain rfl : rs.length = rn := hds.1
        have HDS := hid hds; have HDZ := hid hdz
        have lift : ∀ (o : Nat) (v : Value), w.cell? ⟨ab, o, none⟩ = some v → wr.cell? ⟨ab, o, none⟩ = some v := fun o v h => (HM.out.bel.cell (by have := HBW.out; show ab < B; omega)).trans h
        have q0 : wr.cell? ⟨ab, aoff + i * 2, none⟩ = some (.slice ra rs.length rc) := lift _ _ hd0
        have q1 : wr.cell? ⟨ab, aoff + i * 2 + 1, none⟩ = some (.bool rnew) := lift _ _ hd1
        clear lift hd0 hd1 hds hdz
        go_upto_region 17 with fail
        have HM1 := hid (HM.out.alloc (.cells #[.slice ra rs.length rc, .bool rnew] 35))
        have HSV1 := hid (HSV.out.alloc (.cells #[.slice ra rs.length rc, .bool rnew] 35))
        have HX1 := hid (Blk.new wr 35 #[.slice ra rs.length rc, .bool rnew])
        obtain ⟨W1, hW1⟩ : ∃ W1, wr.alloc (.cells #[.slice ra rs.length rc, .bool rnew] 35) = W1 := ⟨_, rfl⟩
        have hgK : Grew K wr (wr.alloc (.cells #[.slice ra rs.length rc, .bool rnew] 35)) wr.heap.size := .inr ⟨Nat.le_refl _, by simp⟩
        have hgb : wr.heap.size ≠ b := by have := Blk.lt HM.out.on.book; omega
        rw [hW1] at HM1 HSV1 HX1 hgK ⊢
        obtain ⟨K1, hK1⟩ : ∃ K1, Grew K wr W1 = K1 := ⟨_, rfl⟩
        rw [hK1] at HM1 HSV1 hgK
        obtain ⟨g, hg⟩ : ∃ g, wr.heap.size = g := ⟨_, rfl⟩
        rw [hg] at HX1 hgK hgb hBr ⊢
        have HGK := hid hgK; have HGB := hid hgb
        have HLS : Hid (S.life ≤ 9223372036854775807) := by have := HM.out.fits; show _ ≤ _; unfold St.Fits at this; omega
        clear hW1 hgK hgb hK1 hg HM HSV HNV q0 q1
        have HS1 : Hid (StrsAt W1 ra rs.length rs) := HDS.out.later (by rw [HBW.out]; exact HM1.out.bel)
        have e0 : W1.cell? ⟨g, 0, none⟩ = some (.slice ra rs.length rc) := HX1.out.cell 0
        have e1 : W1.cell? ⟨g, 1, none⟩ = some (.bool rnew) := HX1.out.cell 1
        go_wp2_with fail
        refine (great_any _ _ _ rs W1 HS1.out HDZ.out).mono ?_; rintro e w' ⟨rfl, rfl⟩
        cases hgr : greatB rs
        case true =>
          go_wp2_with fail
          go_ret
          exact ⟨rfl, by rw [HGV.out]; exact HBVW.out _ HM1.out.bel⟩
        case false =>
        clear hgr HS1
        have HDZ2 : Hid (∀ x ∈ rs, x.size ≤ 9223372036854775807) := fun x hx => by have := HDZ.out x hx; omega
        obtain ⟨vs, hv1, hv2⟩ := HSV1.out.1
        have hvl : vs.length = L.length := by have := hv1.1; omega
        have HV1 := hid hv1; have HV2 := hid hv2; have HVL := hid hvl
        have hBW1 : B ≤ W1.heap.size := HM1.out.size
        have HMD := hid (World.ownsRow_made (base := B) (e := 33) (size := 1) W1 #[] 0 hBW1 (by unfold maxLen; omega) rfl)
        have HVA : Hid ((W1.alloc (.cells #[] 33)).ownsRow B 33 1 (.slice (some ⟨sg, 0, none⟩) L.length sc) L.length vs) := HV1.out.alloc _
        clear hv1 hv2 hvl
        go_upto_region 20 with (at_builtin; refine wpList_append_own_at _ rfl (.tmp 61) (.tmp 62) 29 rfl B 33 i0 (.slice none 0 0) 1 24 Try.underlying29 hi0 hz0 hz1 hz2 rfl (by decide) (.slice (some ⟨W1.heap.size, 0, none⟩) 0 0) 0 [] rfl HMD.out ⟨sg, 0, none⟩ L.length sc vs rfl (by have := HVL.out; omega) (HVA.out.cells rfl) (want_ones (w := w) HVL.out HV2.out) (by unfold maxLen; omega) (by omega) (by simp; omega) ?_; intro nv w7 hown' hgrow _ hat; have HO7 := hid hown'; have HG7 := hid hgrow; have HA7 := hid hat; clear hown' hgrow hat)
        have HM2 := hid (HM1.out.alloc (.cells #[] 33))
        have HM3 := hid (HM2.out.grown (v := .slice (some ⟨W1.heap.size, 0, none⟩) 0 0) (fun k e => by
          simp only [Value.ownBlock, Option.some.injEq] at e
          exact .inr ⟨by omega, by rw [← e]; simp⟩) HMD.out HG7.out)
        have hon : Only (fun k => (Value.slice (some ⟨W1.heap.size, 0, none⟩) 0 0).ownBlock = some k) (W1.alloc (.cells #[] 33)) w7 := (Only.refl _ _).grown HG7.out (fun k e => .inl e)
        have hob : ∀ k, k < W1.heap.size → ¬ (Value.slice (some ⟨W1.heap.size, 0, none⟩) 0 0).ownBlock = some k := fun k hk e => by
          simp only [Value.ownBlock, Option.some.injEq] at e
          omega
        have hsb : ∀ k, (Value.slice (some ⟨sg, 0, none⟩) L.length sc).ownBlock = some k → k < W1.heap.size := fun k hk => own_lt HV1.out hk
        obtain ⟨K3, hK3⟩ : ∃ K3, Grew (Grew K1 W1 (W1.alloc (.cells #[] 33))) (W1.alloc (.cells #[] 33)) w7 = K3 := ⟨_, rfl⟩
        have h13 : ∀ k, K1 k → K3 k := fun k hk => by rw [← hK3]; exact .inl (.inl hk)
        have HSV3 := hid ((HSV1.out.alloc (.cells #[] 33)).only (K' := K3) hon (fun k hk => hob k (hsb k hk)) (fun k hk => by rw [← hK3]; exact .inl hk))
        have hown : w7.ownsRow B 33 1 nv L.length vs := by
          have h := HO7.out
          rwa [Nat.zero_add, List.nil_append] at h
        have hnb : ∀ k, nv.ownBlock = some k → W1.heap.size ≤ k ∧ k < w7.heap.size := fun k hk => by
          refine ⟨?_, own_lt hown hk⟩
          rcases HA7.out with e | e
          · rw [e] at hk
            simp only [Value.ownBlock, Option.some.injEq] at hk
            omega
          · rw [e] at hk
            simp only [Option.some.injEq] at hk
            rw [← hk]; simp
        have HNV3 : Hid (Wanted B w w7 K3 nv L) := by
          refine ⟨⟨vs, hown, HV2.out⟩, fun k hk => ?_⟩
          obtain ⟨k1, k2⟩ := hnb k hk
          rw [← hK3]
          by_cases h : k < (W1.alloc (.cells #[] 33)).heap.size
          · exact .inl (.inr ⟨k1, h⟩)
          · exact .inr ⟨by omega, k2⟩
        have HNE : Hid (∀ k, nv.ownBlock = some k → (Value.slice (some ⟨sg, 0, none⟩) L.length sc).ownBlock ≠ some k) := fun k hk e => by
          have := (hnb k hk).1; have := hsb k e; omega
        have HX3 : Hid (Blk w7 g 35 #[.slice ra rs.length rc, .bool rnew]) := (HX1.out.alloc _).only hon (hob g HX1.out.lt)
        have HG3 : Hid (K3 g) := h13 g HGK.out
        rw [hK3] at HM3
        have HS3 : Hid (StrsAt w7 ra rs.length rs) := HDS.out.later (by rw [HBW.out]; exact HM3.out.bel)
        obtain ⟨na, nc, rfl⟩ := wanted_slice HNV3.out
        have e0 : w7.cell? ⟨g, 0, none⟩ = some (.slice ra rs.length rc) := HX3.out.cell 0
        have e1 : w7.cell? ⟨g, 1, none⟩ = some (.bool rnew) := HX3.out.cell 1
        clear hon hob hsb hK3 h13 hown hnb HM1 HM2 HSV1 HX1 HGK HO7 HG7 HA7 HMD HVA HV1 HV2 HVL hBW1
        go_upto_if 65 with fail
        obtain ⟨M, hM⟩ : ∃ M, (if rnew = true then [rs] else L ++ [rs]) = M := ⟨_, rfl⟩
        have HMM := hid hM
        go_cut [8, 11] (fun s8 s11 wx => ∃ (e : Int) (S' : St) (K' : Nat → Prop) (life : Nat) (dead : Bool), s8 = .int .i64 e ∧ Hid (Mid B w wx p b K' S' (4 * i + 8 + 4) life dead) ∧ Hid (Wanted B w wx K' (.slice (some ⟨sg, 0, none⟩) L.length sc) L) ∧ Hid (Wanted B w wx K' s11 M) ∧ Hid (DeedOut S' L M life dead e))
        case first =>
          cases rnew
          case true =>
            rw [if_pos rfl] at hM
            subst hM
            go_wp2_with fail
            refine (renew_E _ _ _ rs HM3.out.on HM3.out.fits (by unfold big; omega) HLS.out (by decide) HS3.out HDZ2.out).mono ?_
            rintro e wx ⟨rfl, he, ho⟩
            have hx := hid (HX3.out.only ho (fun e => e.elim (fun e => e HG3.out) HGB.out))
            have hm := hid (HM3.out.deed he ho (renew_fits HM3.out.fits J S.life false (lists rs)))
            have hs := hid (HSV3.out.deed HM3.out.on.book ho)
            have hu := hid (deed_out (M := [rs]) HC.out (power_renew HC.out (lists rs)))
            have e0 : wx.cell? ⟨g, 0, none⟩ = some (.slice ra rs.length rc) := hx.out.cell 0
            clear he ho
            go_wp2_with fail
            go_meet
            case rel => exact ⟨_, _, _, _, _, rfl, hm.out.alloc _, hs.out.alloc _, Wanted.one hm.out.size HDS.out, hu⟩
          case false =>
            rw [if_neg (by decide)] at hM
            subst hM
            go_wp2_with fail
            refine (add_E _ _ _ rs HM3.out.on HM3.out.fits (by unfold big; omega) HLS.out (by decide) HS3.out HDZ2.out).mono ?_
            rintro e wx ⟨rfl, he, ho⟩
            have hx := hid (HX3.out.only ho (fun e => e.elim (fun e => e HG3.out) HGB.out))
            have hm := hid (HM3.out.deed he ho (add_fits HM3.out.fits J S.life false (lists rs)))
            have hs := hid (HSV3.out.deed HM3.out.on.book ho)
            have hn := hid (HNV3.out.deed HM3.out.on.book ho)
            have hu := hid (deed_out (M := L ++ [rs]) HC.out (by have h := power_add HC.out (lists rs); rw [List.map_append]; exact h))
            have e0 : wx.cell? ⟨g, 0, none⟩ = some (.slice ra rs.length rc) := hx.out.cell 0
            obtain ⟨vn, hv1, hv2⟩ := hn.out.1
            have HV1 := hid hv1; have HV2 := hid hv2
            have hsz : B ≤ wx.heap.size := hm.out.size
            clear he ho hv1 hv2
            go_wp2_with (at_builtin; refine wpList_append_own_at _ rfl (.tmp 77) (.tmp 80) 29 rfl B 33 i0 (.slice none 0 0) 1 24 Try.underlying29 hi0 hz0 hz1 hz2 rfl (by decide) (.slice na L.length nc) _ _ rfl (HV1.out.alloc _) _ 1 1 [.slice ra rs.length rc] rfl rfl (cellNew1 _ _ _) (one_bytes rfl) (by unfold maxLen; omega) (by omega) (by simp; omega) ?_; intro v' w8 hown' hgrow _ hat; have HO7 := hid hown'; have HG7 := hid hgrow; have HA7 := hid hat; clear hown' hgrow hat)
            have hon : Only (fun k => (Value.slice na L.length nc).ownBlock = some k) wx w8 := ((Only.refl _ wx).alloc _).grown HG7.out (fun k e => .inl e)
            go_meet
            case rel => exact ⟨_, _, _, _, _, rfl, hm.out.pushed hn.out.2 HV1.out HG7.out, hs.out.only (K' := Grew K3 wx w8) hon (fun k hk e => HNE.out k e hk) (fun k hk => .inl hk), hn.out.pushed HV2.out HV1.out HDS.out HO7.out HG7.out HA7.out, hu⟩
        case rest =>
        obtain ⟨e, S', K', life, dead, rfl, HM4, HSV4, HNV4, HOUT⟩ := hcut
        have hM0 : M.length ≠ 0 ∧ M.length ≤ i + 1 := by
          rw [← hM]
          split
          · simp
          · simp; omega
        obtain ⟨ma, mc, rfl⟩ := wanted_slice HNV4.out
        obtain ⟨mg, rfl⟩ := want_cap2 HNV4.out.1 hM0.1
        have hML := hM0.2
        have HO := hid hLi
        clear hM hM0 HM3 HSV3 HNV3 HNE HX3 HG3 HS3 e0 e1 HC
        rcases HOUT.out with ⟨rfl, rfl, rfl, hc⟩ | ⟨rfl, hk⟩ | ⟨he0, he10, rfl, rfl, hc⟩
        · have HC4 := hid hc
          clear hc HOUT
          go_wp2_with fail
          go_roundw
          case rel => exact ⟨i + 1, by omega, by omega, by go_num, K', S', M, (by have h := HM4.out; rwa [show 4 * i + 8 + 4 = 4 * (i + 1) + 8 by omega] at h), HNV4.out, HNV4.out, HC4.out, hML, mg, mc, rfl⟩
          case measure => simp [intOf]; omega
        · have HK4 := hid hk
          clear hk HOUT
          go_wp2_with fail
          go_meet
          case rel => exact ⟨K', S', L, M, HM4.out.on.disk, fits_more HM4.out.fits (by omega), HM4.out.low, HM4.out.bel, HM4.out.size, HSV4.out, HNV4.out, by omega, by omega, HK4.out⟩
        · have HC4 := hid hc
          have h10 : (e == 10) = false := by simpa using he10
          have h00 : (e == 0) = false := by simpa using he0
          clear hc HOUT he0 he10
          go_wp2_with fail
          go_roundw
          case rel => exact ⟨i + 1, by omega, by omega, by go_num, K', S', L, (by have h := HM4.out; rwa [show 4 * i + 8 + 4 = 4 * (i + 1) + 8 by omega] at h), HSV4.out, HSV4.out, HC4.out, by omega, sg, sc, rfl⟩
          case measure => simp [intOf]; omega
      · have gn : ¬ (i : Int) < n0 ∨ (i : Int) < n0 ∧ ¬ (i : Int) < 30 := by omega
        rcases gn with gn | ⟨gn, gn2⟩
        all_goals
          go_wp2_with fail
          go_meet
          case rel => exact ⟨K, S, L, L, HM.out.on.disk, fits_more HM.out.fits (by omega), HM.out.low, HM.out.bel, HM.out.size, HSV.out, HNV.out, by omega, by omega, fun fs => .inl (HC.out.kept.back fs).1⟩
  case rest =>
    obtain ⟨K, S, Ls, Ln, HE⟩ := hcut
    clear HM5 HS5 C4
    have HEL := HE.out.ls; have HEN := HE.out.ln
    have HX := HCL.out wc HE.out.bel
    have x1 : wc.cell? ⟨gv, 1, none⟩ = some (.slice a2 n2 c2) := HX.cell 1
    have x2 : wc.cell? ⟨gv, 2, none⟩ = some (.slice a3 n3 c3) := HX.cell 2
    obtain ⟨E, hE, hEE⟩ : ∃ E, Kept (onS (offS S) l3) (E.map lists) ∧ (E = Ls ∨ (E = Ln ∧ Ls ≠ Ln)) := by
      by_cases he : Ls = Ln
      · subst he
        exact ⟨Ls, (HE.out.found l3).elim id id, .inl rfl⟩
      · rcases HE.out.found l3 with h | h
        · exact ⟨Ls, h, .inl rfl⟩
        · exact ⟨Ln, h, .inr ⟨rfl, he⟩⟩
    have HK := hid hE; have HEE := hid hEE
    have hEl : E.length ≤ 31 := by rcases hEE with rfl | ⟨rfl, -⟩ <;> assumption
    have HLOW := hid HE.out.low
    have HLK : Hid (∀ (a : Option Addr) (n : Nat) (l : List Int), IntsAt w a n l → n ≠ 0 → ∀ b off, a = some ⟨b, off, none⟩ → K b) := fun a n l h hn b off e => HE.out.low b (by have := ints_lt h hn b off e; have := HBW.out; omega)
    have HJ2 : Hid (IntsAt wc a2 n2 l2) := ints_later HI2.out (by rw [HBW.out]; exact HE.out.bel)
    have HJ3 : Hid (IntsAt wc a3 n3 l3) := ints_later HI3.out (by rw [HBW.out]; exact HE.out.bel)
    obtain ⟨wa, wac, hws⟩ := wanted_slice HE.out.sure
    obtain ⟨wb, wbc, hwn⟩ := wanted_slice HE.out.next
    rw [hws, hwn] at HE ⊢
    clear HX hE hEE hws hwn
    go_wp2_with fail
    refine (found_K K wc p S 200 (E.map lists) a2 n2 c2 l2 a3 n3 c3 l3 HE.out.disk HE.out.fits (by unfold big; omega) HJ2.out (HLK.out _ _ _ HI2.out) HJ3.out (HLK.out _ _ _ HI3.out) HK.out).mono ?_
    rintro e w6 ⟨ar, cr, G6, S6, rfl, d6, f6, k6, g6, hG6, o6⟩
    rw [List.length_map, grid_lists] at g6
    rw [List.length_map]
    have D6 := hid d6; have F6 := hid f6; have K6 := hid k6; have G6g := hid g6
    have HB6 : Hid (Below B w w6) := Only.low1 HE.out.bel HE.out.size o6 HE.out.low
    have HS6 : B ≤ w6.heap.size := Nat.le_trans HE.out.size o6.size
    have HSW : Hid (GridIn (fun _ => True) w6 wa Ls.length Ls) := (want_only HE.out.sure.1 o6 (fun k hk e => e (HE.out.sure.2 k hk))).grid rfl (by omega) (by rw [HBW.out]; exact HB6.out)
    have HNW : Hid (GridIn (fun _ => True) w6 wb Ln.length Ln) := (want_only HE.out.next.1 o6 (fun k hk e => e (HE.out.next.2 k hk))).grid rfl (by omega) (by rw [HBW.out]; exact HB6.out)
    clear d6 f6 k6 g6 hG6 o6 HE HJ2 HJ3
    go_upto_region 30 with fail
    go_cut [110] (fun s110 wx => s110 = .bool false ∧ Hid (Below w6.heap.size w6 wx))
    case first =>
      rcases HEE.out with rfl | ⟨rfl, hne⟩
      · go_wp2_with (go_at_call 12; refine (same_self E w6 G6g.out HSW.out).mono ?_; rintro e w7 ⟨rfl, b7⟩; have HB7 := hid b7; clear b7)
        go_meet
        case rel => exact ⟨rfl, HB7⟩
      · have HNE := hid hne
        clear hne
        go_wp2_with (first
          | (go_at_call 12; refine (same_self E w7 (G6g.out.only (F := NoF) (Only.of_below HB7.out NoF) (fun k _ e => e)) (HNW.out.only (F := NoF) (Only.of_below HB7.out NoF) (fun k _ e => e))).mono ?_; rintro e w8 ⟨rfl, b8⟩; have HB8 := hid (below_then HB7.out b8); clear b8)
          | (go_at_call 12; refine (same_not E Ls w6 (Ne.symm HNE.out) G6g.out HSW.out).mono ?_; rintro e w7 ⟨rfl, b7⟩; have HB7 := hid b7; clear b7))
        go_meet
        case rel => exact ⟨rfl, HB8⟩
    case rest =>
    obtain ⟨rfl, HBX⟩ := hcut
    have HB7 : Hid (Below B w wc) := HB6.out.trans (HBX.out.mono HS6)
    have HS7 : B ≤ wc.heap.size := Nat.le_trans HS6 HBX.out.size
    have D7 : Hid (DK (fun k => K k ∨ G6 k) wc p S6) := D6.out.below HBX.out
    have G7 : Hid (GridIn G6 wc ar E.length E) := G6g.out.only (F := NoF) (Only.of_below HBX.out NoF) (fun k _ e => e)
    clear D6 G6g HSW HNW HBX
    have HLK2 : Hid (∀ k, k < B → K k ∨ G6 k) := fun k hk => .inl (HLOW.out k hk)
    go_wp2_with fail
    refine (found_K (fun k => K k ∨ G6 k) wc p S6 300 (E.map lists) none 0 0 [] none 0 0 [] D7.out F6.out (by unfold big; omega) (ints_nil wc) (fun h => absurd rfl h) (ints_nil wc) (fun h => absurd rfl h) (K6.out.back []).1).mono ?_
    rintro e w8 ⟨ar8, cr8, G8, S8, rfl, -, -, -, g8, hG8, o8⟩
    rw [List.length_map, grid_lists] at g8
    rw [List.length_map]
    have G8g := hid g8
    have HB8 : Hid (Below B w w8) := Only.low1 HB7.out HS7 o8 HLK2.out
    have HS8 : B ≤ w8.heap.size := Nat.le_trans HS7 o8.size
    have G7g : Hid (GridIn G6 w8 ar E.length E) := G7.out.only o8 (fun k hk e => e (.inr hk))
    clear g8 hG8 o8
    go_wp2_with (go_at_call 12; refine (same_self E w8 G8g.out G7g.out).mono ?_; rintro e w9 ⟨rfl, b9⟩; have HB9 : Hid (Below B w w9) := HB8.out.trans (b9.mono HS8); clear b9)
    go_ret
    exact ⟨rfl, by rw [HGV.out]; exact HBVW.out _ HB9.out⟩
end Go.Proofs.Ytnhgfhbicaiilaa
/- An argument that is a slice of ints, opened. -/
namespace Go.Proofs.Ytnhgfhbicaiilaa
open Go.ChangeShapes Go.WideShapes Go.ChangeAt Go.RowKit
set_option linter.unusedVariables false

theorem intsAt_of {w : World} {x : Addr} {l c : Nat} {zs : List Int} (hl : l ≤ c) (hm : c ≤ maxLen) (hz : zs.length = c) (hcell : ∀ i, i < zs.length → w.cell? (x.add i) = some (.int .i64 (zs.getD i 0))) (hw : ∀ n ∈ zs, (Lit.int .i64 n).wf = true) : IntsAt w (some x) l (zs.take l) := by
  unfold maxLen at hm
  refine ⟨by simp; omega, by omega, fun y hy => ?_, ?_⟩
  · have := hw y (List.mem_of_mem_take hy)
    exact (Lit.wf_int_iff _ _).1 this
  by_cases h0 : l = 0
  · exact .inl h0
  · refine .inr ?_
    obtain ⟨b, off, spot⟩ := x
    have hc := hcell 0 (by omega)
    have hspot : spot = none := by simpa [Addr.add] using World.cell?_spot hc
    subst hspot
    refine ⟨b, off, rfl, fun j hj => ?_⟩
    have h1 := hcell j (by omega)
    have h2 : (⟨b, off, none⟩ : Addr).add j = ⟨b, off + j, none⟩ := by
      unfold Addr.add; split
      · subst_vars; rfl
      · rfl
    rw [h2] at h1
    rw [h1]
    simp [List.getD_eq_getElem?_getD, hj]
set_option maxRecDepth 100000 in
theorem open_intsl {H : Type} {enc : TypeId × Value → H} {r : Reach} {b0 : Nat} {W : World} {held : Bool} {v : Value} {d : DataW H} {p : List MemPlace} {base : Nat} (hv : Value.okWide Try.prog W r b0 47 v) (h : DataW.Trod enc Try.prog W base (fun _ => true) held 47 v d p) :
    ∃ a n c l, v = .slice a n c ∧ IntsAt W a n l := by
  obtain ⟨a, n, c, rfl⟩ := okWide_slice Try.underlying47 hv
  obtain ⟨fuel, hf⟩ := h
  rcases _root_.Go.ChangeShapes.open_ints Try.underlying47 Try.underlying3 (by kernel_rfl) hf with ⟨hcs, _⟩ | ⟨x, l, c, zs, hcs, _, hl, hm, hz, _, hcell, hw⟩
  · simp [Value.cells] at hcs
    obtain ⟨rfl, rfl, rfl⟩ := hcs
    exact ⟨none, 0, 0, [], rfl, rfl, by omega, by simp, .inl rfl⟩
  · simp [Value.cells] at hcs
    obtain ⟨rfl, rfl, rfl⟩ := hcs
    exact ⟨_, _, _, _, rfl, intsAt_of hl hm (by simpa using hz) hcell hw⟩
end Go.Proofs.Ytnhgfhbicaiilaa
/- An argument that is an array of three slices of ints, opened. -/
namespace Go.Proofs.Ytnhgfhbicaiilaa
open Go.ChangeShapes Go.WideShapes Go.ChangeAt Go.RowKit
set_option linter.unusedVariables false

set_option maxRecDepth 100000 in
theorem intsAt_one {H : Type} {enc : TypeId × Value → H} {W : World} {base fuel : Nat} {spare : Nat → Bool} {held : Bool} {v : Value} {y : DataW H × List MemPlace} (h : DataW.trod enc Try.prog W base spare held fuel 47 [v] = some y) :
    ∃ a n c l, v = .slice a n c ∧ IntsAt W a n l := by
  rcases _root_.Go.ChangeShapes.open_ints Try.underlying47 Try.underlying3 (by kernel_rfl) h with ⟨hcs, _⟩ | ⟨x, l, c, zs, hcs, _, hl, hm, hz, _, hcell, hw⟩
  · simp at hcs
    subst hcs
    exact ⟨none, 0, 0, [], rfl, rfl, by omega, by simp, .inl rfl⟩
  · simp at hcs
    subst hcs
    have hlc : l ≤ zs.length := by rw [hz]; split <;> omega
    refine ⟨_, _, _, zs.take l, rfl, ?_⟩
    unfold maxLen at hm
    refine ⟨by simp; omega, by omega, fun y hy => ?_, ?_⟩
    · have := hw y (List.mem_of_mem_take hy)
      exact (Lit.wf_int_iff _ _).1 this
    by_cases h0 : l = 0
    · exact .inl h0
    · refine .inr ?_
      obtain ⟨b, off, spot⟩ := x
      have hspot : spot = none := by simpa [Addr.add] using World.cell?_spot (hcell 0 (by omega))
      subst hspot
      refine ⟨b, off, rfl, fun j hj => ?_⟩
      have h1 := hcell j (by omega)
      have h2 : (⟨b, off, none⟩ : Addr).add j = ⟨b, off + j, none⟩ := by
        unfold Addr.add; split
        · subst_vars; rfl
        · rfl
      rw [h2] at h1
      rw [h1]
      simp [List.getD_eq_getElem?_getD, hj]
set_option maxRecDepth 100000 in
theorem open_ints3 {H : Type} {enc : TypeId × Value → H} {r : Reach} {b0 : Nat} {W : World} {held : Bool} {v : Value} {d : DataW H} {p : List MemPlace} {base : Nat} (hv : Value.okWide Try.prog W r b0 48 v) (h : DataW.Trod enc Try.prog W base (fun _ => true) held 48 v d p) :
    ∃ a1 n1 c1 l1 a2 n2 c2 l2 a3 n3 c3 l3, v = .agg #[.slice a1 n1 c1, .slice a2 n2 c2, .slice a3 n3 c3] ∧ IntsAt W a1 n1 l1 ∧ IntsAt W a2 n2 l2 ∧ IntsAt W a3 n3 l3 := by
  have hv' : ∃ e1 e2 e3, v = .agg #[e1, e2, e3] := by
    simp only [Value.okWide, Try.underlying48] at hv
    obtain ⟨cs, h1, h2, _⟩ := hv
    have h3 : cs.size = 3 := h2.trans (by kernel_rfl)
    obtain ⟨l⟩ := cs
    match l, h3 with
    | [e1, e2, e3], _ => exact ⟨e1, e2, e3, h1⟩
  obtain ⟨e1, e2, e3, rfl⟩ := hv'
  obtain ⟨fuel, hf⟩ := h
  have hf' : DataW.trod enc Try.prog W base (fun _ => true) held fuel 48 [e1, e2, e3] = some (d, p) := hf
  obtain ⟨y0, y1, y2, n, -, t0, t1, t2⟩ := trod_array3 Try.underlying48 (by kernel_rfl) hf'
  obtain ⟨a1, n1, c1, l1, rfl, w1⟩ := intsAt_one t0
  obtain ⟨a2, n2, c2, l2, rfl, w2⟩ := intsAt_one t1
  obtain ⟨a3, n3, c3, l3, rfl, w3⟩ := intsAt_one t2
  exact ⟨a1, n1, c1, l1, a2, n2, c2, l2, a3, n3, c3, l3, rfl, w1, w2, w3⟩
end Go.Proofs.Ytnhgfhbicaiilaa
