/- Texts in a row: BkGoes, OpenBoolsIn. -/
import Derived.Test.YtnhgfhbicaiilaaMgGoesF
import Derived.Deep.Grids
/- The walk of BookGoes. -/
namespace Go.Proofs.Ytnhgfhbicaiilaa
open Go.RowKit Book Reel
set_option linter.unusedVariables false

def BoolsIn (w : World) (a : Option Addr) (n : Nat) : Prop := n ≤ 9223372036854775807 ∧ (n = 0 ∨ ∃ b off, a = some ⟨b, off, none⟩ ∧ ∀ j, j < n → ∃ q, w.cell? ⟨b, off + j, none⟩ = some (.bool q))
theorem bools_get {w : World} {a : Option Addr} {n : Nat} (h : BoolsIn w a n) {j : Nat} (hj : j < n) : ∃ b off q, a = some ⟨b, off, none⟩ ∧ b < w.heap.size ∧ w.cell? ⟨b, off + j, none⟩ = some (.bool q) := by
  obtain ⟨b, off, ha, hc⟩ := h.2.resolve_left (by omega)
  obtain ⟨q, hd⟩ := hc j hj
  exact ⟨b, off, q, ha, World.block_lt_of_cell? w _ hd, hd⟩
/-- where the law stands ahead of a round -/
def GoesAt (B : Nat) (w0 w : World) (p : Nat) (bv wv : Value) (n : Nat) (i : Nat) : Prop :=
  ∃ (K : Nat → Prop) (b : Nat) (S : St) (L : List (List ByteArray)), bv = .pointer (some ⟨b, 0, none⟩) ∧ Mid B w0 w p b K S n S.life false ∧ Wanted B w0 w K wv L ∧ Calm S (L.map lists) ∧ L.length ≤ i
set_option maxRecDepth 100000 in
set_option maxHeartbeats 8000000 in
theorem walk_BookGoes (a0 : Option Addr) (n0 c0 : Nat) (a1 : Option Addr) (n1 c1 : Nat) (room : Int) (w : World) (h0 : DeedsAt w a0 n0) (h1 : BoolsIn w a1 n1) (h2 : -9223372036854775808 ≤ room ∧ room ≤ 9223372036854775807) :
    Calls Try.prog 3 #[.slice a0 n0 c0, .slice a1 n1 c1, .int .i64 room] w fun e w' => e = .returned (.bool true) ∧ Below w.heap.size w w' := by
  obtain ⟨B, hB⟩ : ∃ B, w.heap.size = B := ⟨_, rfl⟩
  have HBW := hid hB
  have HW0 := hid h0; have HW1 := hid h1
  have hn0 := h0.1
  have hn1 := h1.1
  rw [hB]; clear hB h0 h1
  obtain ⟨h2a, h2b⟩ := h2
  obtain ⟨i0, hi0, hz0, hz1, hz2⟩ := info_parts Try.infoSl
  go_enter Try.func3, Try.ntmps3
  go_wp2_with fail
  refine (awake17_any _).mono ?_; rintro e w1 ⟨rfl, b1⟩
  have L1 : Hid (Below B w w1) := by rw [HBW.out] at b1; exact b1
  have B1 : B ≤ w1.heap.size := by have := L1.out.size; rw [HBW.out] at this; exact this
  clear b1
  go_wp2_with fail
  generalize (wrap64 ((IntKind.u64.wrap room).tmod 4000)) = rm
  refine (new_K (K := fun k => k < B) rm (fun k h => Nat.lt_of_lt_of_le h B1)).mono ?_; rintro e w2 ⟨p, rfl, d0, b1⟩
  have L2 : Hid (Below B w w2) := L1.out.trans (b1.mono B1)
  have B2 : B ≤ w2.heap.size := Nat.le_trans B1 b1.size
  have D0 := hid d0
  have C0 := hid (calm_new rm)
  have F0 : Hid ((new rm).Fits 0) := ⟨Nat.le_refl _, Nat.le_refl _, by show (0 : Nat) ≤ _; omega⟩
  clear d0 b1 L1 B1
  obtain ⟨S0, hS0⟩ : ∃ S0, new rm = S0 := ⟨_, rfl⟩
  have HL0 : Hid (S0.life = 0) := by rw [← hS0]; rfl
  rw [hS0] at D0 C0 F0
  clear hS0
  go_wp2_with fail
  refine (open_K (fun k => k < B) p S0 J w2 0 F0.out (by decide) D0.out (by decide)).mono ?_
  rintro e w3 ⟨hp, ho⟩
  have hco := calm_open C0.out
  rcases hp with ⟨-, b, a, c, G, rfl, hd, hbk, hGb, hgr, hG⟩ | ⟨h1, -⟩
  case inr => exact absurd (by rw [hco]) h1
  rw [hco] at hd hbk hgr ⊢
  simp only at hd hbk hgr ⊢
  have L3 : Hid (Below B w w3) := Only.low1 L2.out B2 ho (fun k h => h)
  have B3 : B ≤ w3.heap.size := Nat.le_trans B2 ho.size
  have hBb : B ≤ b := Nat.le_trans B2 (hG b hGb).1
  have HM3 : Hid (Mid B w w3 p b (fun k => k < B ∨ G k) S0 4 S0.life false) := ⟨⟨hd, hbk, .inr hGb⟩, fits_more F0.out (by omega), fun k hk => .inl hk, hBb, L3.out, B3⟩
  clear hd hbk hGb hgr hG ho hco D0 L2 B2 L3 F0
  go_upto_block 0 with fail

  go_cut [11] (fun s11 wx => ∃ i s8, i ≤ 30 ∧ Hid (GoesAt B w wx p s8 s11 (8 * i + 4) i))
  case first =>
    go_wp2_with fail
    go_loopw [8, 11, 12] (fun bv wv iv wr => ∃ i : Nat, i ≤ n0 ∧ i ≤ 30 ∧ iv = .int .i64 i ∧ Hid (GoesAt B w wr p bv wv (8 * i + 4) i)) (fun _ _ iv _ => n0 - (intOf iv).toNat)
    case atStart =>
      exact ⟨0, Nat.zero_le _, Nat.zero_le _, rfl, _, b, S0, [], rfl, HM3.out.alloc _, Wanted.made B3 (.bool true) rfl, C0.out, Nat.le_refl _⟩
    case round =>
      obtain ⟨i, hi, hi30, rfl, hg⟩ := hrel
      obtain ⟨K, b', S, L, rfl, hm, hw, hc, hLi⟩ := hg.out
      have HM := hid hm; have HW := hid hw; have HC := hid hc
      have hBr : B ≤ wr.heap.size := hm.size
      obtain ⟨wa, wc, rfl⟩ := wanted_slice hw
      clear hc hm hw hg HM3 B3 C0
      by_cases hgo : i < n0 ∧ i < 30
      · obtain ⟨hin, hi3⟩ := hgo
        have g1 : (i : Int) < n0 := by omega
        have g2 : (i : Int) < 30 := by omega
        have g0 : (0 : Int) ≤ (i : Int) := by omega
        obtain ⟨ab, aoff, ra, rn, rc, rs, rnew, rfl, hab, hd0, hd1, hds, hdz⟩ := deeds_get HW0.out hin
        have LX : Hid (Below B w wr) := HM.out.bel
        have lift : ∀ (o : Nat) (v : Value), w.cell? ⟨ab, o, none⟩ = some v → wr.cell? ⟨ab, o, none⟩ = some v := fun o v h => (LX.out.cell (by have := HBW.out; show ab < B; omega)).trans h
        have q0 : wr.cell? ⟨ab, aoff + i * 2, none⟩ = some (.slice ra rn rc) := lift _ _ hd0
        have q1 : wr.cell? ⟨ab, aoff + i * 2 + 1, none⟩ = some (.bool rnew) := lift _ _ hd1
        obtain rfl : rs.length = rn := hds.1
        have HDS := hid hds; have HDZ := hid hdz
        clear lift hd0 hd1 hds hdz
        go_upto_region 12 with fail
        have HM1 := hid (HM.out.alloc (.cells #[.slice ra rs.length rc, .bool rnew] 35))
        have HW1b := hid (HW.out.alloc (.cells #[.slice ra rs.length rc, .bool rnew] 35))
        have HX1 := hid (Blk.new wr 35 #[.slice ra rs.length rc, .bool rnew])
        obtain ⟨W1, hW1⟩ : ∃ W1, wr.alloc (.cells #[.slice ra rs.length rc, .bool rnew] 35) = W1 := ⟨_, rfl⟩
        have hgK : Grew K wr (wr.alloc (.cells #[.slice ra rs.length rc, .bool rnew] 35)) wr.heap.size := .inr ⟨Nat.le_refl _, by simp⟩
        have hgb : wr.heap.size ≠ b' := by have := Blk.lt HM.out.on.book; omega
        rw [hW1] at HM1 HW1b HX1 hgK ⊢
        obtain ⟨K1, hK1⟩ : ∃ K1, Grew K wr W1 = K1 := ⟨_, rfl⟩
        rw [hK1] at HM1 HW1b hgK
        obtain ⟨g, hg⟩ : ∃ g, wr.heap.size = g := ⟨_, rfl⟩
        rw [hg] at HX1 hgK hgb hBr ⊢
        have HGK := hid hgK; have HGB := hid hgb
        have HLS : Hid (S.life ≤ 9223372036854775807) := by have := HM.out.fits; show _ ≤ _; unfold St.Fits at this; omega
        clear hW1 hgK hgb hK1 hg HM HW LX q0 q1
        have HS1 : Hid (StrsAt W1 ra rs.length rs) := HDS.out.later (by rw [HBW.out]; exact HM1.out.bel)
        have c0 : W1.cell? ⟨g, 0, none⟩ = some (.slice ra rs.length rc) := HX1.out.cell 0
        have c1 : W1.cell? ⟨g, 1, none⟩ = some (.bool rnew) := HX1.out.cell 1
        go_wp2_with fail
        refine (great_any _ _ _ rs W1 HS1.out HDZ.out).mono ?_; rintro e w' ⟨rfl, rfl⟩
        cases hgr : greatB rs
        case true =>
          go_wp2_with fail
          go_ret
          exact ⟨rfl, HM1.out.bel⟩
        case false =>
        have HGR := hid (great_not hgr)
        clear hgr
        have HDZ2 : Hid (∀ x ∈ rs, x.size ≤ 9223372036854775807) := fun x hx => by have := HDZ.out x hx; omega
        go_upto_if 57 with fail
        go_cut [10] (fun s10 wx => ∃ (ok : Bool) (e : Int) (S' : St), s10 = .int .i64 e ∧ (ok = true → e = 0) ∧ (ok = false → e = 1 ∨ e = 6 ∨ e = 11) ∧ Hid (Mid B w wx p b' K1 S' (8 * i + 4 + 4) S'.life false) ∧ Hid (Wanted B w wx K1 (.slice wa L.length wc) L) ∧ Hid (Blk wx g 35 #[.slice ra rs.length rc, .bool rnew]) ∧ Hid (Calm S' ((if ok then (if rnew then [rs] else L ++ [rs]) else L).map lists)))
        case first =>
          have after : ∀ (r : St × Int × Bool) (wx : World) (M : List (List ByteArray)), DeedPost S (L.map lists) (M.map lists) (lists rs) r → r.1.Fits (8 * i + 4 + 4) → BkOn K1 wx p b' r.1 J S.life r.2.2 → Only (fun k => ¬ K1 k ∨ k = b') W1 wx → ∃ (ok : Bool) (e : Int) (S' : St), Value.int .i64 r.2.1 = .int .i64 e ∧ (ok = true → e = 0) ∧ (ok = false → e = 1 ∨ e = 6 ∨ e = 11) ∧ Hid (Mid B w wx p b' K1 S' (8 * i + 4 + 4) S'.life false) ∧ Hid (Wanted B w wx K1 (.slice wa L.length wc) L) ∧ Hid (Blk wx g 35 #[.slice ra rs.length rc, .bool rnew]) ∧ Hid (Calm S' ((if ok then M else L).map lists)) := by
            intro r wx M hp hf he ho
            obtain ⟨hdead, hp⟩ := hp
            rw [hdead] at he
            have hx : Blk wx g 35 #[.slice ra rs.length rc, .bool rnew] := HX1.out.only ho (fun e => e.elim (fun e => e HGK.out) HGB.out)
            have hw := HW1b.out.deed HM1.out.on.book ho
            have hm := HM1.out.deed he ho hf
            rcases hp with ⟨e1, -, e3, e4⟩ | ⟨e1, e2, e3⟩
            · refine ⟨true, r.2.1, r.1, rfl, fun _ => e1, fun h => (by cases h), ?_, hw, hx, e3⟩
              show Mid _ _ _ _ _ _ _ _ _ _
              rw [e4]; exact hm
            · refine ⟨false, r.2.1, r.1, rfl, fun h => (by cases h), fun _ => ?_, ?_, hw, hx, ?_⟩
              · rcases e3 with e3 | e3
                · rcases HGR.out with h | h | h
                  · exact absurd (e3.trans h) e1
                  · exact .inl (e3.trans h)
                  · exact .inr (.inl (e3.trans h))
                · exact .inr (.inr e3)
              · show Mid _ _ _ _ _ _ _ _ _ _
                rw [e2] at hm ⊢; exact hm
              · show Calm _ _
                rw [e2]; exact HC.out
          cases rnew
          all_goals
            go_wp2_with fail
            first
              | (go_at_call 11
                 refine (add_E _ _ _ rs HM1.out.on HM1.out.fits (by unfold big; omega) HLS.out (by decide) HS1.out HDZ2.out).mono ?_
                 rintro e wx ⟨rfl, he, ho⟩
                 have HAFT := hid (after _ wx (L ++ [rs]) (by rw [List.map_append]; exact calm_add HC.out (lists rs)) (add_fits HM1.out.fits _ _ _ _) he ho)
                 clear he ho after)
              | (go_at_call 10
                 refine (renew_E _ _ _ rs HM1.out.on HM1.out.fits (by unfold big; omega) HLS.out (by decide) HS1.out HDZ2.out).mono ?_
                 rintro e wx ⟨rfl, he, ho⟩
                 have HAFT := hid (after _ wx [rs] (calm_renew HC.out (lists rs)) (renew_fits HM1.out.fits _ _ _ _) he ho)
                 clear he ho after)
            go_wp2_with fail
            go_meet
            case rel => exact HAFT.out
        case rest =>
        obtain ⟨ok, e, S', rfl, he1, he0, HM2, HW2, HX2, HC2⟩ := hcut
        have HE1 := hid he1; have HE0 := hid he0
        have d0 : wc.cell? ⟨g, 0, none⟩ = some (.slice ra rs.length rc) := HX2.out.cell 0
        have d1 : wc.cell? ⟨g, 1, none⟩ = some (.bool rnew) := HX2.out.cell 1
        clear he1 he0 HM1 HW1b HX1 HS1 c0 c1 HGR HC
        go_upto_region 17 with fail
        go_cut [71] (fun s71 wx => s71 = .bool (ok && rnew) ∧ wc = wx)
        case first =>
          cases ok
          case true =>
            obtain rfl : e = 0 := HE1.out rfl
            cases rnew
            all_goals
              go_wp2_with fail
              go_meet
              case rel => exact ⟨rfl, rfl⟩
          case false =>
            have hb : (e == 0) = false := by rcases HE0.out rfl with h | h | h <;> subst h <;> rfl
            go_wp2_with fail
            go_meet
            case rel => exact ⟨rfl, rfl⟩
        case rest =>
        obtain ⟨rfl, rfl⟩ := hcut
        go_upto_if 71 with fail
        obtain ⟨L2, hL2⟩ : ∃ L2, (if (ok && rnew) = true then [] else L) = L2 := ⟨_, rfl⟩
        have HL2 := hid hL2
        go_cut [11] (fun s11 wx => ∃ K2 : Nat → Prop, Hid (Mid B w wx p b' K2 S' (8 * i + 4 + 4) S'.life false) ∧ Hid (Wanted B w wx K2 s11 L2) ∧ Hid (Blk wx g 35 #[.slice ra rs.length rc, .bool rnew]) ∧ Hid (K2 g))
        case first =>
          obtain ⟨t, ht⟩ : ∃ t, (ok && rnew) = t := ⟨_, rfl⟩
          rw [ht] at hL2 ⊢
          cases t
          case true =>
            rw [if_pos rfl] at hL2
            subst hL2
            clear ht
            go_wp2_with fail
            go_meet
            case rel => exact ⟨_, HM2.out.alloc _, Wanted.made HM2.out.size (.bool true) rfl, HX2.out.alloc _, .inl HGK.out⟩
          case false =>
            rw [if_neg (by decide)] at hL2
            subst hL2
            clear ht
            go_wp2_with fail
            go_meet
            case rel => exact ⟨_, HM2, HW2, HX2, HGK⟩
        case rest =>
        obtain ⟨K2, HM3, HW3, HX3, HGK3⟩ := hcut
        clear hL2 HM2 HW2 HX2 HGK d0 d1
        go_upto_region 19 with fail
        go_cut [74] (fun s74 wx => s74 = .bool ok ∧ wc = wx)
        case first =>
          cases ok
          case true =>
            obtain rfl : e = 0 := HE1.out rfl
            go_wp2_with fail
            go_meet
            case rel => exact ⟨rfl, rfl⟩
          case false =>
            have hb : (e == 0) = false := by rcases HE0.out rfl with h | h | h <;> subst h <;> rfl
            go_wp2_with fail
            go_meet
            case rel => exact ⟨rfl, rfl⟩
        case rest =>
        obtain ⟨rfl, rfl⟩ := hcut
        go_upto_if 74 with fail
        obtain ⟨L3, hL3⟩ : ∃ L3, (if ok = true then L2 ++ [rs] else L2) = L3 := ⟨_, rfl⟩
        have HL3 := hid hL3
        obtain ⟨wa2, wc2, rfl⟩ := wanted_slice HW3.out
        have HLL : Hid (L2.length ≤ 100) := by
          show _ ≤ _
          rw [← HL2.out]
          split
          · exact Nat.zero_le _
          · omega
        go_cut [11] (fun s11 wx => ∃ K3 : Nat → Prop, Hid (Mid B w wx p b' K3 S' (8 * i + 4 + 4) S'.life false) ∧ Hid (Wanted B w wx K3 s11 L3))
        case first =>
          cases ok
          case true =>
            rw [if_pos rfl] at hL3
            subst hL3
            have d0 : wc.cell? ⟨g, 0, none⟩ = some (.slice ra rs.length rc) := HX3.out.cell 0
            obtain ⟨vs, hv1, hv2⟩ := HW3.out.1
            have HV1 := hid hv1; have HV2 := hid hv2
            have hll := HLL.out
            have hsz : B ≤ wc.heap.size := HM3.out.size
            clear hv1 hv2
            go_wp2_with (at_builtin; refine wpList_append_own_at _ rfl (.tmp 75) (.tmp 78) 29 rfl B 33 i0 (.slice none 0 0) 1 24 Try.underlying29 hi0 hz0 hz1 hz2 rfl (by decide) (.slice wa2 L2.length wc2) _ _ rfl (HV1.out.alloc _) _ 1 1 [.slice ra rs.length rc] rfl rfl (cellNew1 _ _ _) (one_bytes rfl) (by unfold maxLen; omega) (by omega) (by simp; omega) ?_; intro v' w7 hown' hgrow _ hat)
            have HO7 := hid hown'; have HG7 := hid hgrow; have HA7 := hid hat
            clear hown' hgrow hat
            go_meet
            case rel => exact ⟨_, HM3.out.pushed HW3.out.2 HV1.out HG7.out, HW3.out.pushed HV2.out HV1.out HDS.out HO7.out HG7.out HA7.out⟩
          case false =>
            rw [if_neg (by decide)] at hL3
            subst hL3
            go_wp2_with fail
            go_meet
            case rel => exact ⟨_, HM3, HW3⟩
        case rest =>
        obtain ⟨K3, HM4, HW4⟩ := hcut
        clear hL3 HM3 HW3 HX3 HGK3
        go_upto_region 21 with fail
        go_cut [93] (fun s93 wx => s93 = .bool false ∧ wc = wx)
        case first =>
          have he : e = 0 ∨ e = 1 ∨ e = 6 ∨ e = 11 := by
            cases ok
            · exact .inr (HE0.out rfl)
            · exact .inl (HE1.out rfl)
          rcases he with rfl | rfl | rfl | rfl
          all_goals
            go_wp2_with fail
            go_meet
            case rel => exact ⟨rfl, rfl⟩
        case rest =>
        obtain ⟨rfl, rfl⟩ := hcut
        go_upto_region 23 with fail
        go_cut [103] (fun s103 wx => ∃ q, s103 = .bool q ∧ wc = wx)
        case first =>
          by_cases hin1 : i < n1
          · have k1 : (i : Int) < n1 := by omega
            obtain ⟨eb, eoff, q, rfl, heb, hec⟩ := bools_get HW1.out hin1
            have hec2 : wc.cell? ⟨eb, eoff + i, none⟩ = some (.bool q) := (HM4.out.bel.cell (by have := HBW.out; show eb < B; omega)).trans hec
            clear hec
            go_wp2_with fail
            go_meet
            case rel => exact ⟨q, rfl, rfl⟩
          · have k1 : ¬ (i : Int) < n1 := by omega
            go_wp2_with fail
            go_meet
            case rel => exact ⟨false, rfl, rfl⟩
        case rest =>
        obtain ⟨q, rfl, rfl⟩ := hcut
        go_upto_if 103 with fail
        obtain ⟨wa3, wc3, rfl⟩ := wanted_slice HW4.out
        have HC3 : Hid (Calm S' (L3.map lists)) := by
          show Calm _ _
          have h := HC2.out
          rw [← HL3.out, ← HL2.out]
          cases ok <;> cases rnew <;> exact h
        have HL4 : Hid (L3.length ≤ i + 1) := by
          show _ ≤ _
          rw [← HL3.out, ← HL2.out]
          cases ok <;> cases rnew <;> simp <;> omega
        cases q
        case true =>
          go_wp2_with fail
          refine (open_K K3 p S' J wc (8 * i + 4 + 4) HM4.out.fits (by unfold big; omega) HM4.out.on.disk (by decide)).mono ?_
          rintro e w4 ⟨hp, ho⟩
          have hfo := open_fits HM4.out.fits J
          have hco := calm_open HC3.out
          rcases hp with ⟨-, b4, a4, c4, G4, rfl, hd, hbk, hGb, hgr, hG⟩ | ⟨h1, -⟩
          case inr => exact absurd (by rw [hco]) h1
          rw [hco] at hd hbk hgr hfo ⊢
          simp only at hd hbk hgr hfo ⊢
          rw [grid_lists, List.length_map] at hgr
          have HM5 := hid (HM4.out.opened hd hbk hG hGb ho hfo)
          have HW5 := hid (HW4.out.opened (G := G4) ho)
          have HGR5 := hid hgr
          have hl3 : (L3.map lists).length = L3.length := List.length_map ..
          rw [hl3]
          have HWG := hid (Want.grid HW5.out.1 rfl (by have := HL4.out; omega) (by rw [HBW.out]; exact HM5.out.bel))
          clear hd hbk hGb hgr hG ho hco hl3 HM4 HW4 hfo
          go_wp2_with (go_at_call 12; refine (same_self L3 w4 HGR5.out HWG.out).mono ?_; rintro e w5 ⟨rfl, b5⟩; have HM6 := hid (HM5.out.step (G := NoF) (Only.of_below b5 NoF) (fun k e => e.elim)); have HW6 := hid (HW5.out.only (G := NoF) (K' := Grew (fun k => K3 k ∨ G4 k) w4 w5) (Only.of_below b5 NoF) (fun k _ e => e) (fun k hk => .inl hk)); clear b5 HM5 HW5)
          go_roundw
          case rel =>
            repeat apply Exists.intro
            refine ⟨?_, rfl⟩
            exact ⟨i + 1, by omega, by omega, by go_num, _, b4, S', L3, rfl, (by have h := HM6.out; rwa [show 8 * i + 4 + 4 + 4 = 8 * (i + 1) + 4 by omega] at h), HW6.out, HC3.out, HL4.out⟩
          case measure => simp [intOf]; omega
        case false =>
          go_wp2_with fail
          go_roundw
          case rel =>
            repeat apply Exists.intro
            refine ⟨?_, rfl⟩
            exact ⟨i + 1, by omega, by omega, by go_num, K3, b', S', L3, rfl, ⟨HM4.out.on, fits_more HM4.out.fits (by omega), HM4.out.low, HM4.out.bb, HM4.out.bel, HM4.out.size⟩, HW4.out, HC3.out, HL4.out⟩
          case measure => simp [intOf]; omega
      · have gn : ¬ (i : Int) < n0 ∨ (i : Int) < n0 ∧ ¬ (i : Int) < 30 := by omega
        rcases gn with gn | ⟨gn, gn2⟩
        all_goals
          go_wp2_with fail
          go_meet
          case rel => exact ⟨i, _, hi30, K, b', S, L, rfl, HM.out, HW.out, HC.out, hLi⟩
  case rest =>
    obtain ⟨i, s8, hi30, K, b', S, L, rfl, hm, hw, hc, hLi⟩ := hcut
    have HM := hid hm; have HW := hid hw; have HC := hid hc
    obtain ⟨wa, wcc, rfl⟩ := wanted_slice hw
    clear hm hw hc HM3 B3 C0
    go_wp2_with fail
    refine (open_K K p S J wc (8 * i + 4) HM.out.fits (by unfold big; omega) HM.out.on.disk (by decide)).mono ?_
    rintro e w4 ⟨hp, ho⟩
    have hco := calm_open HC.out
    rcases hp with ⟨-, b4, a4, c4, G4, rfl, hd, hbk, hGb, hgr, hG⟩ | ⟨h1, -⟩
    case inr => exact absurd (by rw [hco]) h1
    rw [hco] at hd hbk hgr ⊢
    simp only at hd hbk hgr ⊢
    rw [grid_lists, List.length_map] at hgr
    have HB4 : Hid (Below B w w4) := Only.low1 HM.out.bel HM.out.size ho HM.out.low
    have HS4 : B ≤ w4.heap.size := Nat.le_trans HM.out.size ho.size
    have HW5 := hid (HW.out.opened (G := G4) ho)
    have HGR5 := hid hgr
    have hl3 : (L.map lists).length = L.length := List.length_map ..
    rw [hl3]
    have HWG := hid (Want.grid HW5.out.1 rfl (by omega) (by rw [HBW.out]; exact HB4.out))
    clear hd hbk hGb hgr hG ho hco hl3
    go_wp2_with fail
    refine (open_nil _ w4).mono ?_; rintro e w' ⟨rfl, rfl⟩
    go_upto_region 31 with fail
    go_wp2_with (first
      | (go_at_call 12; refine (same_self L _ HGR5.out HWG.out).mono ?_; rintro e w5 ⟨rfl, b5⟩; have HB5 : Hid (Below B w w5) := HB4.out.trans (b5.mono HS4); have HS5 : B ≤ w5.heap.size := Nat.le_trans HS4 b5.size; clear b5)
      | (go_at_call 11; refine (add_nil _ _).mono ?_; rintro e w6 ⟨rfl, b6⟩; have HB6 : Hid (Below B w w6) := (HB5.out.alloc HS5 _).trans (b6.mono (by simp; omega)); clear b6)
      | (go_at_call 13; refine (bsize_nil _).mono ?_; rintro e w7 ⟨rfl, rfl⟩))
    go_ret
    exact ⟨rfl, HB6.out⟩
end Go.Proofs.Ytnhgfhbicaiilaa
/- An argument that is a slice of bools, opened: each cell is a bool. -/
namespace Go.Proofs.Ytnhgfhbicaiilaa
open Go.ChangeShapes Go.WideShapes Go.ChangeAt Go.RowKit
set_option linter.unusedVariables false

set_option maxRecDepth 100000 in
theorem open_boolsl {H : Type} {enc : TypeId × Value → H} {r : Reach} {b0 : Nat} {W : World} {held : Bool} {v : Value} {d : DataW H} {p : List MemPlace} {base : Nat} (hv : Value.okWide Try.prog W r b0 23 v) (h : DataW.Trod enc Try.prog W base (fun _ => true) held 23 v d p) :
    ∃ a n c, v = .slice a n c ∧ BoolsIn W a n := by
  obtain ⟨a, n, c, rfl⟩ := okWide_slice Try.underlying23 hv
  obtain ⟨fuel, hf⟩ := h
  rcases _root_.Go.Deep.open_bools Try.underlying23 Try.underlying4 (by kernel_rfl) hf with ⟨hcs, _⟩ | ⟨x, l, c, B, hcs, _, hl, hm, _, hcell⟩
  · simp [Value.cells] at hcs
    obtain ⟨rfl, rfl, rfl⟩ := hcs
    exact ⟨none, 0, 0, rfl, by omega, .inl rfl⟩
  · simp [Value.cells] at hcs
    obtain ⟨rfl, rfl, rfl⟩ := hcs
    unfold maxLen at hm
    refine ⟨_, _, _, rfl, by omega, ?_⟩
    by_cases h0 : n = 0
    · exact .inl h0
    · refine .inr ?_
      obtain ⟨b, off, spot⟩ := x
      have hc := hcell 0 (by omega)
      have hspot : spot = none := by simpa [Addr.add] using World.cell?_spot hc
      subst hspot
      refine ⟨b, off, rfl, fun j hj => ⟨B j, ?_⟩⟩
      have h1 := hcell j (by omega)
      have h2 : (⟨b, off, none⟩ : Addr).add j = ⟨b, off + j, none⟩ := by
        unfold Addr.add; split
        · subst_vars; rfl
        · rfl
      rw [h2] at h1
      exact h1
end Go.Proofs.Ytnhgfhbicaiilaa
